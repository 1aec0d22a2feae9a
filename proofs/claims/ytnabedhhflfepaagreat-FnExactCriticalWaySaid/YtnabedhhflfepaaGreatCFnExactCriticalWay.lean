/-
  FnExactCriticalWay' call: it returns true, whatever the arguments are.
  Conditions: none beyond the statement's own.
-/
import Derived.Test.YtnabedhhflfepaaGreatConvBd
import Derived.Test.YtnabedhhflfepaaGreatConvPu
import Derived.Test.YtnabedhhflfepaaGreatConvSp
import Derived.Test.YtnabedhhflfepaaGreatConvNu
import Derived.Test.YtnabedhhflfepaaGreatWay
import Derived.Test.YtnabedhhflfepaaGreatOb
import Derived.Deep.RegionHeld3
namespace Go.Proofs.YtnabedhhflfepaaGreat
open Go.RowKit
set_option linter.unusedSimpArgs false
set_option linter.unusedVariables false

set_option maxRecDepth 100000 in
set_option maxHeartbeats 4000000 in
theorem law_FnExactCriticalWay (w : World) (wi0 hi0 : Int) (wl0 : -128 ≤ wi0) (wu0 : wi0 ≤ 127) (hl0 : -128 ≤ hi0) (hu0 : hi0 ≤ 127) (a0 : Option Addr) (c0 : Nat) (x0 : List Pc) (ok0 : ∀ p ∈ x0, p.Ok) (s0 : SlA Pc.enc 5 w a0 x0) (a1 : Option Addr) (c1 : Nat) (x1 : List Pu) (ok1 : ∀ p ∈ x1, p.Ok) (s1 : SlA Pu.enc 4 w a1 x1) (a2 : Option Addr) (c2 : Nat) (x2 : List Sp) (ok2 : ∀ p ∈ x2, p.Ok) (s2 : SlA Sp.enc 2 w a2 x2) (n3 : Int) (nl3 : -9223372036854775808 ≤ n3) (nu3 : n3 ≤ 9223372036854775807) :
    Calls Tryz.prog 5 #[.agg #[.int .i8 wi0, .int .i8 hi0, .slice a0 x0.length c0], .slice a1 x1.length c1, .slice a2 x2.length c2, .int .i64 n3] w fun e w' => e = .returned (.bool true) ∧ Below w.heap.size w w' := by
  have m0 := s0.small
  have m1 := s1.small
  have m2 := s2.small
  have z0 := fun W => sz_Bd_L wi0 hi0 a0 x0.length c0 ((1048576 : Int)) W (by omega) (by omega) m0
  by_cases h0 : x0.length ≤ 1048576
  · skip
    simp only [show ¬ ((1048576 : Int) - (x0.length : Int) < 0) from by omega, if_false] at z0
    have l0 : (0 : Int) ≤ (1048576 : Int) - (x0.length : Int) := by omega
    have Z0 := hid z0
    clear z0
    have z1 := fun W => sz_Pu_L a1 x1.length c1 ((1048576 : Int) - (x0.length : Int)) W (by omega) (by omega) m1
    by_cases h1 : x0.length + x1.length ≤ 1048576
    · skip
      simp only [show ¬ ((1048576 : Int) - (x0.length : Int) - (x1.length : Int) < 0) from by omega, if_false] at z1
      have l1 : (0 : Int) ≤ (1048576 : Int) - (x0.length : Int) - (x1.length : Int) := by omega
      have Z1 := hid z1
      clear z1
      have z2 := fun W => sz_Sp_L a2 x2.length c2 ((1048576 : Int) - (x0.length : Int) - (x1.length : Int)) W (by omega) (by omega) m2
      by_cases h2 : x0.length + x1.length + x2.length ≤ 1048576
      · skip
        simp only [show ¬ ((1048576 : Int) - (x0.length : Int) - (x1.length : Int) - (x2.length : Int) < 0) from by omega, if_false] at z2
        have l2 : (0 : Int) ≤ (1048576 : Int) - (x0.length : Int) - (x1.length : Int) - (x2.length : Int) := by omega
        have Z2 := hid z2
        clear z2
        have HS := fun (W : World) (A0 : Option Addr) (C0 : Nat) (h0 : SlA Pc.enc 5 W A0 x0) (q0 : A0 = none → C0 = 0) (A1 : Option Addr) (C1 : Nat) (h1 : SlA Pu.enc 4 W A1 x1) (q1 : A1 = none → C1 = 0) (A2 : Option Addr) (C2 : Nat) (h2 : SlA Sp.enc 2 W A2 x2) (q2 : A2 = none → C2 = 0) => CriticalWay_S W wi0 hi0 wl0 wu0 hl0 hu0 A0 C0 x0 h0 q0 ok0 (by omega) A1 C1 x1 h1 q1 ok1 (by omega) A2 C2 x2 h2 q2 ok2 (by omega) n3 nl3 nu3
        have HI := fun (W : World) (A0 : Option Addr) (C0 : Nat) (h0 : SlA Pc.enc 5 W A0 x0) (q0 : A0 = none → C0 = 0) (A1 : Option Addr) (C1 : Nat) (h1 : SlA Pu.enc 4 W A1 x1) (q1 : A1 = none → C1 = 0) (A2 : Option Addr) (C2 : Nat) (h2 : SlA Sp.enc 2 W A2 x2) (q2 : A2 = none → C2 = 0) => CriticalWay_I W wi0 hi0 wl0 wu0 hl0 hu0 A0 C0 x0 h0 q0 ok0 (by omega) A1 C1 x1 h1 q1 ok1 (by omega) A2 C2 x2 h2 q2 ok2 (by omega) n3 nl3 nu3
        have hRl := CriticalWay_len wi0 hi0 x0 x1 x2 n3 (by omega)
        obtain ⟨R, hR⟩ : ∃ R, (CriticalWayG wi0 hi0 x0 x1 x2 n3).1 = R := ⟨_, rfl⟩
        obtain ⟨cd, hcd⟩ : ∃ cd, (CriticalWayG wi0 hi0 x0 x1 x2 n3).2 = cd := ⟨_, rfl⟩
        rw [hR] at hRl
        simp only [hR, hcd] at HS HI
        replace HS := hid HS
        replace HI := hid HI
        clear hR hcd
        have cdd : (cd != cd) = false := by simp
        go_enter Tryz.func5, Tryz.ntmps5
        go_wp2_with fail
        obtain ⟨wb, hwb⟩ : ∃ wb, wb = w.alloc (Obj.cells #[.int .i8 wi0, .int .i8 hi0, .slice a0 x0.length c0] 25) := ⟨_, rfl⟩
        have B0 : Below w.heap.size w wb := by rw [hwb]; exact (Below.refl _ _).alloc (Nat.le_refl _) _
        have k0_0 : wb.cell? ⟨w.heap.size, 0, none⟩ = some (.int .i8 wi0) := by rw [hwb]; simp
        have k0_1 : wb.cell? ⟨w.heap.size, 1, none⟩ = some (.int .i8 hi0) := by rw [hwb]; simp
        have k0_2 : wb.cell? ⟨w.heap.size, 2, none⟩ = some (.slice a0 x0.length c0) := by rw [hwb]; simp
        have wlt : w.heap.size < wb.heap.size := by rw [hwb]; simp
        rw [← hwb]
        clear hwb
        have wsz := B0.size
        refine (Z0.out _).mono ?_
        rintro e w1 ⟨rfl, b1⟩
        have B1 := below_of B0 B0.size b1
        have zz1 := b1.size
        replace k0_0 := cell_on b1 k0_0
        replace k0_1 := cell_on b1 k0_1
        replace k0_2 := cell_on b1 k0_2
        clear b1
        go_wp2_with fail
        refine (Z1.out _).mono ?_
        rintro e w2 ⟨rfl, rfl⟩
        go_wp2_with fail
        refine (Z2.out _).mono ?_
        rintro e w3 ⟨rfl, rfl⟩
        go_wp2_with fail
        refine (to_Bd_L wi0 hi0 a0 c0 x0 _ (s0.below B1) (by omega)).mono ?_
        rintro e w4 ⟨g4, rfl, b4, own4⟩
        have Bp := B1
        have B4 := below_of B1 B1.size b4
        have zz4 := b4.size
        have p0 := Ob.new (b0 := w.heap.size) own4 Bp.size
        clear Bp
        replace k0_0 := cell_on b4 k0_0
        replace k0_1 := cell_on b4 k0_1
        replace k0_2 := cell_on b4 k0_2
        clear own4 b4
        go_wp2_with fail
        refine (toS_Pu_L a1 c1 x1 _ (s1.below B4) (by omega)).mono ?_
        rintro e w5 ⟨g5, rfl, b5, own5⟩
        have d_p0_p1 := p0.top
        have Bp := B4
        have B5 := below_of B4 B4.size b5
        have zz5 := b5.size
        have p1 := Ob.new (b0 := w.heap.size) own5 Bp.size
        clear Bp
        replace k0_0 := cell_on b5 k0_0
        replace k0_1 := cell_on b5 k0_1
        replace k0_2 := cell_on b5 k0_2
        replace p0 := p0.step b5
        clear own5 b5
        go_wp2_with fail
        refine (toS_Sp_L a2 c2 x2 _ (s2.below B5) (by omega)).mono ?_
        rintro e w6 ⟨g6, rfl, b6, own6⟩
        have d_p0_p2 := p0.top
        have d_p1_p2 := p1.top
        have Bp := B5
        have B6 := below_of B5 B5.size b6
        have zz6 := b6.size
        have p2 := Ob.new (b0 := w.heap.size) own6 Bp.size
        clear Bp
        replace k0_0 := cell_on b6 k0_0
        replace k0_1 := cell_on b6 k0_1
        replace k0_2 := cell_on b6 k0_2
        replace p0 := p0.step b6
        replace p1 := p1.step b6
        clear own6 b6
        go_wp2_with fail
        refine (HS.out _ _ _ (p0.sla Pc.enc_length) p0.nilcap _ _ (p1.sla Pu.enc_length) p1.nilcap _ _ (p2.sla Sp.enc_length) p2.nilcap).mono ?_
        rintro e w7 ⟨A7, ca7, rfl, b7, own7⟩
        have d_p0_ow := p0.top
        have d_p1_ow := p1.top
        have d_p2_ow := p2.top
        have Bp := B6
        have B7 := below_of B6 B6.size b7
        have zz7 := b7.size
        have ow := Ob.new (b0 := w.heap.size) own7 Bp.size
        clear Bp
        replace k0_0 := cell_on b7 k0_0
        replace k0_1 := cell_on b7 k0_1
        replace k0_2 := cell_on b7 k0_2
        replace p0 := p0.step b7
        replace p1 := p1.step b7
        replace p2 := p2.step b7
        clear own7 b7
        go_wp2_with fail
        clear p0 p1 p2
        refine (to_Bd_L wi0 hi0 a0 c0 x0 _ (s0.below B7) (by omega)).mono ?_
        rintro e w8 ⟨g8, rfl, b8, own8⟩
        have d_ow_v0 := ow.top
        have Bp := B7
        have B8 := below_of B7 B7.size b8
        have zz8 := b8.size
        have v0 := Ob.new (b0 := w.heap.size) own8 Bp.size
        clear Bp
        replace k0_0 := cell_on b8 k0_0
        replace k0_1 := cell_on b8 k0_1
        replace k0_2 := cell_on b8 k0_2
        replace ow := ow.step b8
        clear own8 b8
        have a_k0_0 := fun o => cell_on ((Below.refl w8.heap.size w8).alloc (Nat.le_refl _) o) k0_0
        have a_k0_1 := fun o => cell_on ((Below.refl w8.heap.size w8).alloc (Nat.le_refl _) o) k0_1
        have a_k0_2 := fun o => cell_on ((Below.refl w8.heap.size w8).alloc (Nat.le_refl _) o) k0_2
        go_wp2_with fail
        clear a_k0_0 a_k0_1 a_k0_2
        obtain ⟨w9, hw9⟩ : ∃ W, W = w8.alloc (Obj.cells #[.int .i8 wi0, .int .i8 hi0, .slice (some ⟨g8, 0, none⟩) x0.length x0.length] 35) := ⟨_, rfl⟩
        have b9 : Below w8.heap.size w8 w9 := by rw [hw9]; exact (Below.refl _ _).alloc (Nat.le_refl _) _
        have kx0_0 : w9.cell? ⟨w8.heap.size, 0, none⟩ = some (.int .i8 wi0) := by rw [hw9]; simp
        have kx0_1 : w9.cell? ⟨w8.heap.size, 1, none⟩ = some (.int .i8 hi0) := by rw [hw9]; simp
        have kx0_2 : w9.cell? ⟨w8.heap.size, 2, none⟩ = some (.slice (some ⟨g8, 0, none⟩) x0.length x0.length) := by rw [hw9]; simp
        have wl9 : w8.heap.size < w9.heap.size := by rw [hw9]; simp
        rw [← hw9]
        clear hw9
        have B9 := below_of B8 B8.size b9
        have zz9 := b9.size
        replace k0_0 := cell_on b9 k0_0
        replace k0_1 := cell_on b9 k0_1
        replace k0_2 := cell_on b9 k0_2
        replace ow := ow.step b9
        replace v0 := v0.step b9
        clear b9
        refine (toS_Pu_L a1 c1 x1 _ (s1.below B9) (by omega)).mono ?_
        rintro e w10 ⟨g10, rfl, b10, own10⟩
        have d_ow_v1 := ow.top
        have d_v0_v1 := v0.top
        have Bp := B9
        have B10 := below_of B9 B9.size b10
        have zz10 := b10.size
        have v1 := Ob.new (b0 := w.heap.size) own10 Bp.size
        clear Bp
        replace k0_0 := cell_on b10 k0_0
        replace k0_1 := cell_on b10 k0_1
        replace k0_2 := cell_on b10 k0_2
        replace kx0_0 := cell_on b10 kx0_0
        replace kx0_1 := cell_on b10 kx0_1
        replace kx0_2 := cell_on b10 kx0_2
        replace ow := ow.step b10
        replace v0 := v0.step b10
        clear own10 b10
        go_wp2_with fail
        refine (toS_Sp_L a2 c2 x2 _ (s2.below B10) (by omega)).mono ?_
        rintro e w11 ⟨g11, rfl, b11, own11⟩
        have d_ow_v2 := ow.top
        have d_v0_v2 := v0.top
        have d_v1_v2 := v1.top
        have Bp := B10
        have B11 := below_of B10 B10.size b11
        have zz11 := b11.size
        have v2 := Ob.new (b0 := w.heap.size) own11 Bp.size
        clear Bp
        replace k0_0 := cell_on b11 k0_0
        replace k0_1 := cell_on b11 k0_1
        replace k0_2 := cell_on b11 k0_2
        replace kx0_0 := cell_on b11 kx0_0
        replace kx0_1 := cell_on b11 kx0_1
        replace kx0_2 := cell_on b11 kx0_2
        replace ow := ow.step b11
        replace v0 := v0.step b11
        replace v1 := v1.step b11
        clear own11 b11
        go_wp2_with fail
        refine (HI.out _ _ _ (v0.sla Pc.enc_length) v0.nilcap _ _ (v1.sla Pu.enc_length) v1.nilcap _ _ (v2.sla Sp.enc_length) v2.nilcap).mono ?_
        rintro e w12 ⟨A12, ca12, rfl, b12, own12⟩
        have d_ow_og := ow.top
        have d_v0_og := v0.top
        have d_v1_og := v1.top
        have d_v2_og := v2.top
        have Bp := B11
        have B12 := below_of B11 B11.size b12
        have zz12 := b12.size
        have og := Ob.new (b0 := w.heap.size) own12 Bp.size
        clear Bp
        replace k0_0 := cell_on b12 k0_0
        replace k0_1 := cell_on b12 k0_1
        replace k0_2 := cell_on b12 k0_2
        replace kx0_0 := cell_on b12 kx0_0
        replace kx0_1 := cell_on b12 kx0_1
        replace kx0_2 := cell_on b12 kx0_2
        replace ow := ow.step b12
        replace v0 := v0.step b12
        replace v1 := v1.step b12
        replace v2 := v2.step b12
        clear own12 b12
        go_wp2_with fail
        refine (eqS_en1_L _ _ _ _ R R _ (og.sla en1_length) (ow.sla en1_length)).mono ?_
        rintro e w13 ⟨rfl, b13⟩
        have B13 := below_of B12 B12.size b13
        have zz13 := b13.size
        replace k0_0 := cell_on b13 k0_0
        replace k0_1 := cell_on b13 k0_1
        replace k0_2 := cell_on b13 k0_2
        replace kx0_0 := cell_on b13 kx0_0
        replace kx0_1 := cell_on b13 kx0_1
        replace kx0_2 := cell_on b13 kx0_2
        replace ow := ow.step b13
        replace v0 := v0.step b13
        replace v1 := v1.step b13
        replace v2 := v2.step b13
        replace og := og.step b13
        clear b13
        rw [dec_self]
        go_wp2_with fail
        have b14 : Below w13.heap.size w13 w13.drew := (Below.refl _ _).drew
        have B14 := below_of B13 B13.size b14
        have zz14 := b14.size
        replace k0_0 := cell_on b14 k0_0
        replace k0_1 := cell_on b14 k0_1
        replace k0_2 := cell_on b14 k0_2
        replace kx0_0 := cell_on b14 kx0_0
        replace kx0_1 := cell_on b14 kx0_1
        replace kx0_2 := cell_on b14 kx0_2
        replace ow := ow.step b14
        replace v0 := v0.step b14
        replace v1 := v1.step b14
        replace v2 := v2.step b14
        replace og := og.step b14
        clear b14
        go_region_held3 (fun w' => w'.cell? ⟨w8.heap.size, 0, none⟩ = some (.int .i8 wi0) ∧ w'.cell? ⟨w8.heap.size, 1, none⟩ = some (.int .i8 hi0) ∧ w'.cell? ⟨w8.heap.size, 2, none⟩ = some (.slice (some ⟨g8, 0, none⟩) x0.length x0.length) ∧ w'.cell? ⟨w.heap.size, 0, none⟩ = some (.int .i8 wi0) ∧ w'.cell? ⟨w.heap.size, 1, none⟩ = some (.int .i8 hi0) ∧ w'.cell? ⟨w.heap.size, 2, none⟩ = some (.slice a0 x0.length c0)) ((refine ⟨?_, ?_, ?_, ?_, ?_, ?_⟩ <;> assumption)) (first | (go_at_call 11; refine (to_Bd_L wi0 hi0 a0 c0 x0 _ (s0.below B14) (by omega)).mono ?_; rintro e w15 ⟨g15, rfl, b15, own15⟩; have d_ow_u0 := ow.top; have d_v0_u0 := v0.top; have d_v1_u0 := v1.top; have d_v2_u0 := v2.top; have d_og_u0 := og.top; have Bp := B14; have B15 := below_of B14 B14.size b15; have zz15 := b15.size; have u0 := Ob.new (b0 := w.heap.size) own15 Bp.size; clear Bp; replace k0_0 := cell_on b15 k0_0; replace k0_1 := cell_on b15 k0_1; replace k0_2 := cell_on b15 k0_2; replace kx0_0 := cell_on b15 kx0_0; replace kx0_1 := cell_on b15 kx0_1; replace kx0_2 := cell_on b15 kx0_2; replace ow := ow.step b15; replace v0 := v0.step b15; replace v1 := v1.step b15; replace v2 := v2.step b15; replace og := og.step b15; clear own15 b15) | (go_at_call 15; refine (eq_Bd_L wi0 hi0 wi0 hi0 _ _ _ _ x0 x0 _ (v0.sla Pc.enc_length) (u0.sla Pc.enc_length)).mono ?_; rintro e w16 ⟨rfl, b16⟩; have B16 := below_of B15 B15.size b16; have zz16 := b16.size; replace k0_0 := cell_on b16 k0_0; replace k0_1 := cell_on b16 k0_1; replace k0_2 := cell_on b16 k0_2; replace kx0_0 := cell_on b16 kx0_0; replace kx0_1 := cell_on b16 kx0_1; replace kx0_2 := cell_on b16 kx0_2; replace ow := ow.step b16; replace v0 := v0.step b16; replace v1 := v1.step b16; replace v2 := v2.step b16; replace og := og.step b16; replace u0 := u0.step b16; clear b16; rw [decide_eq_true (show wi0 = wi0 ∧ hi0 = hi0 ∧ x0 = x0 from ⟨rfl, rfl, rfl⟩)]))
        go_wp2_with fail
        clear u0
        refine (toS_Pu_L a1 c1 x1 _ (s1.below B16) (by omega)).mono ?_
        rintro e w17 ⟨g17, rfl, b17, own17⟩
        have d_ow_u1 := ow.top
        have d_v0_u1 := v0.top
        have d_v1_u1 := v1.top
        have d_v2_u1 := v2.top
        have d_og_u1 := og.top
        have Bp := B16
        have B17 := below_of B16 B16.size b17
        have zz17 := b17.size
        have u1 := Ob.new (b0 := w.heap.size) own17 Bp.size
        clear Bp
        replace k0_0 := cell_on b17 k0_0
        replace k0_1 := cell_on b17 k0_1
        replace k0_2 := cell_on b17 k0_2
        replace kx0_0 := cell_on b17 kx0_0
        replace kx0_1 := cell_on b17 kx0_1
        replace kx0_2 := cell_on b17 kx0_2
        replace ow := ow.step b17
        replace v0 := v0.step b17
        replace v1 := v1.step b17
        replace v2 := v2.step b17
        replace og := og.step b17
        clear own17 b17
        go_wp2_with fail
        refine (eqS_Pu_L _ _ _ _ x1 x1 _ (v1.sla Pu.enc_length) (u1.sla Pu.enc_length)).mono ?_
        rintro e w18 ⟨rfl, b18⟩
        have B18 := below_of B17 B17.size b18
        have zz18 := b18.size
        replace k0_0 := cell_on b18 k0_0
        replace k0_1 := cell_on b18 k0_1
        replace k0_2 := cell_on b18 k0_2
        replace kx0_0 := cell_on b18 kx0_0
        replace kx0_1 := cell_on b18 kx0_1
        replace kx0_2 := cell_on b18 kx0_2
        replace ow := ow.step b18
        replace v0 := v0.step b18
        replace v1 := v1.step b18
        replace v2 := v2.step b18
        replace og := og.step b18
        replace u1 := u1.step b18
        clear b18
        rw [dec_self]
        go_wp2_with fail
        clear u1
        refine (toS_Sp_L a2 c2 x2 _ (s2.below B18) (by omega)).mono ?_
        rintro e w19 ⟨g19, rfl, b19, own19⟩
        have d_ow_u2 := ow.top
        have d_v0_u2 := v0.top
        have d_v1_u2 := v1.top
        have d_v2_u2 := v2.top
        have d_og_u2 := og.top
        have Bp := B18
        have B19 := below_of B18 B18.size b19
        have zz19 := b19.size
        have u2 := Ob.new (b0 := w.heap.size) own19 Bp.size
        clear Bp
        replace k0_0 := cell_on b19 k0_0
        replace k0_1 := cell_on b19 k0_1
        replace k0_2 := cell_on b19 k0_2
        replace kx0_0 := cell_on b19 kx0_0
        replace kx0_1 := cell_on b19 kx0_1
        replace kx0_2 := cell_on b19 kx0_2
        replace ow := ow.step b19
        replace v0 := v0.step b19
        replace v1 := v1.step b19
        replace v2 := v2.step b19
        replace og := og.step b19
        clear own19 b19
        go_wp2_with fail
        refine (eqS_Sp_L _ _ _ _ x2 x2 _ (v2.sla Sp.enc_length) (u2.sla Sp.enc_length)).mono ?_
        rintro e w20 ⟨rfl, b20⟩
        have B20 := below_of B19 B19.size b20
        have zz20 := b20.size
        replace k0_0 := cell_on b20 k0_0
        replace k0_1 := cell_on b20 k0_1
        replace k0_2 := cell_on b20 k0_2
        replace kx0_0 := cell_on b20 kx0_0
        replace kx0_1 := cell_on b20 kx0_1
        replace kx0_2 := cell_on b20 kx0_2
        replace ow := ow.step b20
        replace v0 := v0.step b20
        replace v1 := v1.step b20
        replace v2 := v2.step b20
        replace og := og.step b20
        replace u2 := u2.step b20
        clear b20
        rw [dec_self]
        go_wp2_with fail
        clear u2
        clear kx0_0
        clear kx0_1
        clear kx0_2
        refine (markS_Bd_L _ wi0 hi0 _ _ x0 (1) _ v0.own (by omega) (by omega) (by omega)).mono ?_
        rintro e w21 ⟨rfl, hg21, own21⟩
        have Bn := v0.below B20 hg21
        have zz21 := hg21.size
        replace k0_0 := by first | exact cell_mark v0 k0_0 hg21 (by dsimp only; omega) | exact cell_mark2 v0 k0_0 hg21 (by dsimp only; omega)
        replace k0_1 := by first | exact cell_mark v0 k0_1 hg21 (by dsimp only; omega) | exact cell_mark2 v0 k0_1 hg21 (by dsimp only; omega)
        replace k0_2 := by first | exact cell_mark v0 k0_2 hg21 (by dsimp only; omega) | exact cell_mark2 v0 k0_2 hg21 (by dsimp only; omega)
        replace ow := ow.other v0 hg21 (by omega)
        replace v1 := v1.other v0 hg21 (by omega)
        replace v2 := v2.other v0 hg21 (by omega)
        replace og := og.other v0 hg21 (by omega)
        replace v0 := v0.marked (ys := markL Pc.mk_ 5 x0.length (1)) (markL_length _ _ _ _) own21 hg21
        have B21 := Bn
        clear Bn hg21 own21
        go_wp2_with fail
        refine (markS_Pu_L _ _ _ x1 (1 + 5 * (x0.length : Int)) _ v1.own (by omega) (by omega) (by omega)).mono ?_
        rintro e w22 ⟨rfl, hg22, own22⟩
        have Bn := v1.below B21 hg22
        have zz22 := hg22.size
        replace k0_0 := by first | exact cell_mark v1 k0_0 hg22 (by dsimp only; omega) | exact cell_mark2 v1 k0_0 hg22 (by dsimp only; omega)
        replace k0_1 := by first | exact cell_mark v1 k0_1 hg22 (by dsimp only; omega) | exact cell_mark2 v1 k0_1 hg22 (by dsimp only; omega)
        replace k0_2 := by first | exact cell_mark v1 k0_2 hg22 (by dsimp only; omega) | exact cell_mark2 v1 k0_2 hg22 (by dsimp only; omega)
        replace ow := ow.other v1 hg22 (by omega)
        replace v0 := v0.other v1 hg22 (by omega)
        replace v2 := v2.other v1 hg22 (by omega)
        replace og := og.other v1 hg22 (by omega)
        replace v1 := v1.marked (ys := markL Pu.mk_ 4 x1.length (1 + 5 * (x0.length : Int))) (markL_length _ _ _ _) own22 hg22
        have B22 := Bn
        clear Bn hg22 own22
        go_wp2_with fail
        refine (markS_Sp_L _ _ _ x2 (1 + 5 * (x0.length : Int) + 4 * (x1.length : Int)) _ v2.own (by omega) (by omega) (by omega)).mono ?_
        rintro e w23 ⟨rfl, hg23, own23⟩
        have Bn := v2.below B22 hg23
        have zz23 := hg23.size
        replace k0_0 := by first | exact cell_mark v2 k0_0 hg23 (by dsimp only; omega) | exact cell_mark2 v2 k0_0 hg23 (by dsimp only; omega)
        replace k0_1 := by first | exact cell_mark v2 k0_1 hg23 (by dsimp only; omega) | exact cell_mark2 v2 k0_1 hg23 (by dsimp only; omega)
        replace k0_2 := by first | exact cell_mark v2 k0_2 hg23 (by dsimp only; omega) | exact cell_mark2 v2 k0_2 hg23 (by dsimp only; omega)
        replace ow := ow.other v2 hg23 (by omega)
        replace v0 := v0.other v2 hg23 (by omega)
        replace v1 := v1.other v2 hg23 (by omega)
        replace og := og.other v2 hg23 (by omega)
        replace v2 := v2.marked (ys := markL Sp.mk_ 2 x2.length (1 + 5 * (x0.length : Int) + 4 * (x1.length : Int))) (markL_length _ _ _ _) own23 hg23
        have B23 := Bn
        clear Bn hg23 own23
        go_wp2_with fail
        refine (eqS_en1_L _ _ _ _ R R _ (og.sla en1_length) (ow.sla en1_length)).mono ?_
        rintro e w24 ⟨rfl, b24⟩
        have B24 := below_of B23 B23.size b24
        have zz24 := b24.size
        replace k0_0 := cell_on b24 k0_0
        replace k0_1 := cell_on b24 k0_1
        replace k0_2 := cell_on b24 k0_2
        replace ow := ow.step b24
        replace v0 := v0.step b24
        replace v1 := v1.step b24
        replace v2 := v2.step b24
        replace og := og.step b24
        clear b24
        rw [dec_self]
        go_wp2_with fail
        refine (markS_en1_L _ _ _ R (1) _ og.own (by omega) (by omega) (by omega)).mono ?_
        rintro e w25 ⟨rfl, hg25, own25⟩
        have Bn := og.below B24 hg25
        have zz25 := hg25.size
        replace k0_0 := by first | exact cell_mark og k0_0 hg25 (by dsimp only; omega) | exact cell_mark2 og k0_0 hg25 (by dsimp only; omega)
        replace k0_1 := by first | exact cell_mark og k0_1 hg25 (by dsimp only; omega) | exact cell_mark2 og k0_1 hg25 (by dsimp only; omega)
        replace k0_2 := by first | exact cell_mark og k0_2 hg25 (by dsimp only; omega) | exact cell_mark2 og k0_2 hg25 (by dsimp only; omega)
        replace ow := ow.other og hg25 (by omega)
        replace v0 := v0.other og hg25 (by omega)
        replace v1 := v1.other og hg25 (by omega)
        replace v2 := v2.other og hg25 (by omega)
        replace og := og.marked (ys := markL id 1 R.length (1)) (markL_length _ _ _ _) own25 hg25
        have B25 := Bn
        clear Bn hg25 own25
        go_wp2_with fail
        refine (heldS_en1_L _ _ R.length 1 _ (og.sla en1_length) (by omega) (by omega) (by omega)).mono ?_
        rintro e w26 ⟨rfl, rfl⟩
        go_wp2_with fail
        refine (to_Bd_L wi0 hi0 a0 c0 x0 _ (s0.below B25) (by omega)).mono ?_
        rintro e w27 ⟨g27, rfl, b27, own27⟩
        have d_ow_p0 := ow.top
        have d_v0_p0 := v0.top
        have d_v1_p0 := v1.top
        have d_v2_p0 := v2.top
        have d_og_p0 := og.top
        have Bp := B25
        have B27 := below_of B25 B25.size b27
        have zz27 := b27.size
        have p0 := Ob.new (b0 := w.heap.size) own27 Bp.size
        clear Bp
        replace k0_0 := cell_on b27 k0_0
        replace k0_1 := cell_on b27 k0_1
        replace k0_2 := cell_on b27 k0_2
        replace ow := ow.step b27
        replace v0 := v0.step b27
        replace v1 := v1.step b27
        replace v2 := v2.step b27
        replace og := og.step b27
        clear own27 b27
        go_wp2_with fail
        refine (toS_Pu_L a1 c1 x1 _ (s1.below B27) (by omega)).mono ?_
        rintro e w28 ⟨g28, rfl, b28, own28⟩
        have d_ow_p1 := ow.top
        have d_v0_p1 := v0.top
        have d_v1_p1 := v1.top
        have d_v2_p1 := v2.top
        have d_og_p1 := og.top
        have d_p0_p1 := p0.top
        have Bp := B27
        have B28 := below_of B27 B27.size b28
        have zz28 := b28.size
        have p1 := Ob.new (b0 := w.heap.size) own28 Bp.size
        clear Bp
        replace k0_0 := cell_on b28 k0_0
        replace k0_1 := cell_on b28 k0_1
        replace k0_2 := cell_on b28 k0_2
        replace ow := ow.step b28
        replace v0 := v0.step b28
        replace v1 := v1.step b28
        replace v2 := v2.step b28
        replace og := og.step b28
        replace p0 := p0.step b28
        clear own28 b28
        go_wp2_with fail
        refine (toS_Sp_L a2 c2 x2 _ (s2.below B28) (by omega)).mono ?_
        rintro e w29 ⟨g29, rfl, b29, own29⟩
        have d_ow_p2 := ow.top
        have d_v0_p2 := v0.top
        have d_v1_p2 := v1.top
        have d_v2_p2 := v2.top
        have d_og_p2 := og.top
        have d_p0_p2 := p0.top
        have d_p1_p2 := p1.top
        have Bp := B28
        have B29 := below_of B28 B28.size b29
        have zz29 := b29.size
        have p2 := Ob.new (b0 := w.heap.size) own29 Bp.size
        clear Bp
        replace k0_0 := cell_on b29 k0_0
        replace k0_1 := cell_on b29 k0_1
        replace k0_2 := cell_on b29 k0_2
        replace ow := ow.step b29
        replace v0 := v0.step b29
        replace v1 := v1.step b29
        replace v2 := v2.step b29
        replace og := og.step b29
        replace p0 := p0.step b29
        replace p1 := p1.step b29
        clear own29 b29
        go_wp2_with fail
        refine (HI.out _ _ _ (p0.sla Pc.enc_length) p0.nilcap _ _ (p1.sla Pu.enc_length) p1.nilcap _ _ (p2.sla Sp.enc_length) p2.nilcap).mono ?_
        rintro e w30 ⟨A30, ca30, rfl, b30, own30⟩
        have d_ow_oh := ow.top
        have d_v0_oh := v0.top
        have d_v1_oh := v1.top
        have d_v2_oh := v2.top
        have d_og_oh := og.top
        have d_p0_oh := p0.top
        have d_p1_oh := p1.top
        have d_p2_oh := p2.top
        have Bp := B29
        have B30 := below_of B29 B29.size b30
        have zz30 := b30.size
        have oh := Ob.new (b0 := w.heap.size) own30 Bp.size
        clear Bp
        replace k0_0 := cell_on b30 k0_0
        replace k0_1 := cell_on b30 k0_1
        replace k0_2 := cell_on b30 k0_2
        replace ow := ow.step b30
        replace v0 := v0.step b30
        replace v1 := v1.step b30
        replace v2 := v2.step b30
        replace og := og.step b30
        replace p0 := p0.step b30
        replace p1 := p1.step b30
        replace p2 := p2.step b30
        clear own30 b30
        go_wp2_with fail
        refine (eqS_en1_L _ _ _ _ R R _ (oh.sla en1_length) (ow.sla en1_length)).mono ?_
        rintro e w31 ⟨rfl, b31⟩
        have B31 := below_of B30 B30.size b31
        have zz31 := b31.size
        replace k0_0 := cell_on b31 k0_0
        replace k0_1 := cell_on b31 k0_1
        replace k0_2 := cell_on b31 k0_2
        replace ow := ow.step b31
        replace v0 := v0.step b31
        replace v1 := v1.step b31
        replace v2 := v2.step b31
        replace og := og.step b31
        replace p0 := p0.step b31
        replace p1 := p1.step b31
        replace p2 := p2.step b31
        replace oh := oh.step b31
        clear b31
        rw [dec_self]
        go_wp2_with fail
        refine (heldS_en1_L _ _ R.length 1 _ (og.sla en1_length) (by omega) (by omega) (by omega)).mono ?_
        rintro e w32 ⟨rfl, rfl⟩
        go_wp2_with fail
        go_ret
        exact ⟨rfl, B31⟩
      · skip
        simp only [show (1048576 : Int) - (x0.length : Int) - (x1.length : Int) - (x2.length : Int) < 0 from by omega, if_true] at z2
        have Z2 := hid z2
        clear z2
        go_enter Tryz.func5, Tryz.ntmps5
        go_wp2_with fail
        obtain ⟨wb, hwb⟩ : ∃ wb, wb = w.alloc (Obj.cells #[.int .i8 wi0, .int .i8 hi0, .slice a0 x0.length c0] 25) := ⟨_, rfl⟩
        have B0 : Below w.heap.size w wb := by rw [hwb]; exact (Below.refl _ _).alloc (Nat.le_refl _) _
        have k0_0 : wb.cell? ⟨w.heap.size, 0, none⟩ = some (.int .i8 wi0) := by rw [hwb]; simp
        have k0_1 : wb.cell? ⟨w.heap.size, 1, none⟩ = some (.int .i8 hi0) := by rw [hwb]; simp
        have k0_2 : wb.cell? ⟨w.heap.size, 2, none⟩ = some (.slice a0 x0.length c0) := by rw [hwb]; simp
        have wlt : w.heap.size < wb.heap.size := by rw [hwb]; simp
        rw [← hwb]
        clear hwb
        refine (Z0.out _).mono ?_
        rintro e w1 ⟨rfl, b1⟩
        have B1 := below_of B0 B0.size b1
        have zz1 := b1.size
        replace k0_0 := cell_on b1 k0_0
        replace k0_1 := cell_on b1 k0_1
        replace k0_2 := cell_on b1 k0_2
        clear b1
        go_wp2_with fail
        refine (Z1.out _).mono ?_
        rintro e w2 ⟨rfl, rfl⟩
        go_wp2_with fail
        refine (Z2.out _).mono ?_
        rintro e w3 ⟨rfl, rfl⟩
        go_wp2_with fail
        go_ret
        exact ⟨rfl, B1⟩
    · skip
      simp only [show (1048576 : Int) - (x0.length : Int) - (x1.length : Int) < 0 from by omega, if_true] at z1
      have Z1 := hid z1
      clear z1
      go_enter Tryz.func5, Tryz.ntmps5
      go_wp2_with fail
      obtain ⟨wb, hwb⟩ : ∃ wb, wb = w.alloc (Obj.cells #[.int .i8 wi0, .int .i8 hi0, .slice a0 x0.length c0] 25) := ⟨_, rfl⟩
      have B0 : Below w.heap.size w wb := by rw [hwb]; exact (Below.refl _ _).alloc (Nat.le_refl _) _
      have k0_0 : wb.cell? ⟨w.heap.size, 0, none⟩ = some (.int .i8 wi0) := by rw [hwb]; simp
      have k0_1 : wb.cell? ⟨w.heap.size, 1, none⟩ = some (.int .i8 hi0) := by rw [hwb]; simp
      have k0_2 : wb.cell? ⟨w.heap.size, 2, none⟩ = some (.slice a0 x0.length c0) := by rw [hwb]; simp
      have wlt : w.heap.size < wb.heap.size := by rw [hwb]; simp
      rw [← hwb]
      clear hwb
      refine (Z0.out _).mono ?_
      rintro e w1 ⟨rfl, b1⟩
      have B1 := below_of B0 B0.size b1
      have zz1 := b1.size
      replace k0_0 := cell_on b1 k0_0
      replace k0_1 := cell_on b1 k0_1
      replace k0_2 := cell_on b1 k0_2
      clear b1
      go_wp2_with fail
      refine (Z1.out _).mono ?_
      rintro e w2 ⟨rfl, rfl⟩
      go_wp2_with fail
      go_ret
      exact ⟨rfl, B1⟩
  · skip
    simp only [show (1048576 : Int) - (x0.length : Int) < 0 from by omega, if_true] at z0
    have Z0 := hid z0
    clear z0
    go_enter Tryz.func5, Tryz.ntmps5
    go_wp2_with fail
    obtain ⟨wb, hwb⟩ : ∃ wb, wb = w.alloc (Obj.cells #[.int .i8 wi0, .int .i8 hi0, .slice a0 x0.length c0] 25) := ⟨_, rfl⟩
    have B0 : Below w.heap.size w wb := by rw [hwb]; exact (Below.refl _ _).alloc (Nat.le_refl _) _
    have k0_0 : wb.cell? ⟨w.heap.size, 0, none⟩ = some (.int .i8 wi0) := by rw [hwb]; simp
    have k0_1 : wb.cell? ⟨w.heap.size, 1, none⟩ = some (.int .i8 hi0) := by rw [hwb]; simp
    have k0_2 : wb.cell? ⟨w.heap.size, 2, none⟩ = some (.slice a0 x0.length c0) := by rw [hwb]; simp
    have wlt : w.heap.size < wb.heap.size := by rw [hwb]; simp
    rw [← hwb]
    clear hwb
    refine (Z0.out _).mono ?_
    rintro e w1 ⟨rfl, b1⟩
    have B1 := below_of B0 B0.size b1
    have zz1 := b1.size
    replace k0_0 := cell_on b1 k0_0
    replace k0_1 := cell_on b1 k0_1
    replace k0_2 := cell_on b1 k0_2
    clear b1
    go_wp2_with fail
    go_ret
    exact ⟨rfl, B1⟩
end Go.Proofs.YtnabedhhflfepaaGreat
