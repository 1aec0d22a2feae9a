/-
  FnExactLostBy' call: it returns true, whatever the arguments are.
  Conditions: none beyond the statement's own.
-/
import Derived.Test.YtebefcfalnkdmaaGreatConvBd
import Derived.Test.YtebefcfalnkdmaaGreatConvNu
import Derived.Test.YtebefcfalnkdmaaGreatConvKn
import Derived.Test.YtebefcfalnkdmaaGreatSiteS
import Derived.Test.YtebefcfalnkdmaaGreatOb
import Derived.Deep.RegionHeld3
namespace Go.Proofs.YtebefcfalnkdmaaGreat
open Go.RowKit
set_option linter.unusedSimpArgs false
set_option linter.unusedVariables false

set_option maxRecDepth 100000 in
set_option maxHeartbeats 4000000 in
theorem law_FnExactLostBy (w : World) (wi0 hi0 : Int) (wl0 : -128 ≤ wi0) (wu0 : wi0 ≤ 127) (hl0 : -128 ≤ hi0) (hu0 : hi0 ≤ 127) (a0 : Option Addr) (c0 : Nat) (x0 : List Pc) (ok0 : ∀ p ∈ x0, p.Ok) (s0 : SlA Pc.enc 5 w a0 x0) (a1 : Option Addr) (c1 : Nat) (x1 : List Nu) (ok1 : ∀ p ∈ x1, p.Ok) (s1 : SlA Nu.enc 1 w a1 x1) (a2 : Option Addr) (c2 : Nat) (x2 : List Kn) (ok2 : ∀ p ∈ x2, p.Ok) (s2 : SlA Kn.enc 3 w a2 x2) :
    Calls Tryz.prog 7 #[.agg #[.int .i8 wi0, .int .i8 hi0, .slice a0 x0.length c0], .slice a1 x1.length c1, .slice a2 x2.length c2] w fun e w' => e = .returned (.bool true) ∧ Below w.heap.size w w' := by
  obtain ⟨y1, hy1⟩ : ∃ y, y = x1.map Nu.n := ⟨_, rfl⟩
  have t1 := en1_of_nu s1
  rw [← hy1] at t1
  have ly1 : x1.length = y1.length := by rw [hy1, List.length_map]
  have oy1 : ∀ n ∈ y1, -9223372036854775808 ≤ n ∧ n ≤ 9223372036854775807 := by rw [hy1]; intro n hn; obtain ⟨p, hp, rfl⟩ := List.mem_map.1 hn; exact ⟨(ok1 p hp).n0, (ok1 p hp).n1⟩
  rw [ly1]
  clear hy1 ly1 ok1 s1
  have m0 := s0.small
  have m1 := t1.small
  have m2 := s2.small
  by_cases hn1 : y1.length ≤ 1048576
  · skip
    have z0 := fun W => sz_Bd_L wi0 hi0 a0 x0.length c0 ((1048576 : Int)) W (by omega) (by omega) m0
    by_cases h0 : x0.length ≤ 1048576
    · skip
      simp only [show ¬ ((1048576 : Int) - (x0.length : Int) < 0) from by omega, if_false] at z0
      have l0 : (0 : Int) ≤ (1048576 : Int) - (x0.length : Int) := by omega
      have Z0 := hid z0
      clear z0
      have z2 := fun W => sz_Kn_L a2 x2.length c2 ((1048576 : Int) - (x0.length : Int)) W (by omega) (by omega) m2
      by_cases h2 : x0.length + x2.length ≤ 1048576
      · skip
        simp only [show ¬ ((1048576 : Int) - (x0.length : Int) - (x2.length : Int) < 0) from by omega, if_false] at z2
        have l2 : (0 : Int) ≤ (1048576 : Int) - (x0.length : Int) - (x2.length : Int) := by omega
        have Z2 := hid z2
        clear z2
        have HS := fun (W : World) (A0 : Option Addr) (C0 : Nat) (h0 : SlA Pc.enc 5 W A0 x0) (q0 : A0 = none → C0 = 0) (A1 : Option Addr) (C1 : Nat) (h1 : SlA en1 1 W A1 y1) (q1 : A1 = none → C1 = 0) (r1 : y1.length ≤ C1) (f1 : C1 ≤ 9223372036854775807) (A2 : Option Addr) (C2 : Nat) (h2 : SlA Kn.enc 3 W A2 x2) (q2 : A2 = none → C2 = 0) (r2 : x2.length ≤ C2) (f2 : C2 ≤ 9223372036854775807) => LostBy_S W wi0 hi0 wl0 wu0 hl0 hu0 A0 C0 x0 h0 q0 ok0 (by omega) A1 C1 y1 h1 q1 r1 f1 oy1 (by omega) A2 C2 x2 h2 q2 r2 f2 ok2 (by omega)
        have HI := fun (W : World) (A0 : Option Addr) (C0 : Nat) (h0 : SlA Pc.enc 5 W A0 x0) (q0 : A0 = none → C0 = 0) (A1 : Option Addr) (C1 : Nat) (h1 : SlA en1 1 W A1 y1) (q1 : A1 = none → C1 = 0) (r1 : y1.length ≤ C1) (f1 : C1 ≤ 9223372036854775807) (A2 : Option Addr) (C2 : Nat) (h2 : SlA Kn.enc 3 W A2 x2) (q2 : A2 = none → C2 = 0) (r2 : x2.length ≤ C2) (f2 : C2 ≤ 9223372036854775807) => LostBy_I W wi0 hi0 wl0 wu0 hl0 hu0 A0 C0 x0 h0 q0 ok0 (by omega) A1 C1 y1 h1 q1 r1 f1 oy1 (by omega) A2 C2 x2 h2 q2 r2 f2 ok2 (by omega)
        have hRl := LostBy_len wi0 hi0 x0 y1 x2 (by omega) (by omega) (by omega)
        obtain ⟨R, hR⟩ : ∃ R, (LostByG wi0 hi0 x0 y1 x2).1 = R := ⟨_, rfl⟩
        obtain ⟨cd, hcd⟩ : ∃ cd, (LostByG wi0 hi0 x0 y1 x2).2 = cd := ⟨_, rfl⟩
        rw [hR] at hRl
        simp only [hR, hcd] at HS HI
        replace HS := hid HS
        replace HI := hid HI
        clear hR hcd
        have cdd : (cd != cd) = false := by simp
        go_enter Tryz.func7, Tryz.ntmps7
        go_wp2_with fail
        obtain ⟨wb, hwb⟩ : ∃ wb, wb = w.alloc (Obj.cells #[.int .i8 wi0, .int .i8 hi0, .slice a0 x0.length c0] 25) := ⟨_, rfl⟩
        have B0 : Below w.heap.size w wb := by rw [hwb]; exact (Below.refl _ _).alloc (Nat.le_refl _) _
        have k0_0 : wb.cell? ⟨w.heap.size, 0, none⟩ = some (.int .i8 wi0) := by rw [hwb]; simp
        have k0_1 : wb.cell? ⟨w.heap.size, 1, none⟩ = some (.int .i8 hi0) := by rw [hwb]; simp
        have k0_2 : wb.cell? ⟨w.heap.size, 2, none⟩ = some (.slice a0 x0.length c0) := by rw [hwb]; simp
        have wlt : w.heap.size < wb.heap.size := by rw [hwb]; simp
        rw [← hwb]
        clear hwb
        have wsz := B0.size
        refine (Z0.out _).mono ?_
        rintro e w1 ⟨rfl, b1⟩
        have B1 := below_of B0 B0.size b1
        have zz1 := b1.size
        replace k0_0 := cell_on b1 k0_0
        replace k0_1 := cell_on b1 k0_1
        replace k0_2 := cell_on b1 k0_2
        clear b1
        go_wp2_with fail
        refine (Z2.out _).mono ?_
        rintro e w2 ⟨rfl, rfl⟩
        go_wp2_with fail
        refine (to_Bd_L wi0 hi0 a0 c0 x0 _ (s0.below B1) (by omega)).mono ?_
        rintro e w3 ⟨g3, rfl, b3, own3⟩
        have Bp := B1
        have B3 := below_of B1 B1.size b3
        have zz3 := b3.size
        have p0 := Ob.new (b0 := w.heap.size) own3 Bp.size
        clear Bp
        replace k0_0 := cell_on b3 k0_0
        replace k0_1 := cell_on b3 k0_1
        replace k0_2 := cell_on b3 k0_2
        clear own3 b3
        go_wp2_with fail
        refine (toS_en1_L a1 c1 y1 _ (t1.below B3) (by omega)).mono ?_
        rintro e w4 ⟨g4, rfl, b4, own4⟩
        have d_p0_p1 := p0.top
        have Bp := B3
        have B4 := below_of B3 B3.size b4
        have zz4 := b4.size
        have p1 := Ob.new (b0 := w.heap.size) own4 Bp.size
        clear Bp
        replace k0_0 := cell_on b4 k0_0
        replace k0_1 := cell_on b4 k0_1
        replace k0_2 := cell_on b4 k0_2
        replace p0 := p0.step b4
        clear own4 b4
        go_wp2_with fail
        refine (toS_Kn_L a2 c2 x2 _ (s2.below B4) (by omega)).mono ?_
        rintro e w5 ⟨g5, rfl, b5, own5⟩
        have d_p0_p2 := p0.top
        have d_p1_p2 := p1.top
        have Bp := B4
        have B5 := below_of B4 B4.size b5
        have zz5 := b5.size
        have p2 := Ob.new (b0 := w.heap.size) own5 Bp.size
        clear Bp
        replace k0_0 := cell_on b5 k0_0
        replace k0_1 := cell_on b5 k0_1
        replace k0_2 := cell_on b5 k0_2
        replace p0 := p0.step b5
        replace p1 := p1.step b5
        clear own5 b5
        go_wp2_with fail
        refine (HS.out _ _ _ (p0.sla Pc.enc_length) p0.nilcap _ _ (p1.sla en1_length) p1.nilcap p1.lencap p1.capmax _ _ (p2.sla Kn.enc_length) p2.nilcap p2.lencap p2.capmax).mono ?_
        rintro e w6 ⟨A6, ca6, rfl, b6, own6⟩
        have d_p0_ow := p0.top
        have d_p1_ow := p1.top
        have d_p2_ow := p2.top
        have Bp := B5
        have B6 := below_of B5 B5.size b6
        have zz6 := b6.size
        have ow := Ob.new (b0 := w.heap.size) own6 Bp.size
        clear Bp
        replace k0_0 := cell_on b6 k0_0
        replace k0_1 := cell_on b6 k0_1
        replace k0_2 := cell_on b6 k0_2
        replace p0 := p0.step b6
        replace p1 := p1.step b6
        replace p2 := p2.step b6
        clear own6 b6
        go_wp2_with fail
        clear p0 p1 p2
        refine (to_Bd_L wi0 hi0 a0 c0 x0 _ (s0.below B6) (by omega)).mono ?_
        rintro e w7 ⟨g7, rfl, b7, own7⟩
        have d_ow_v0 := ow.top
        have Bp := B6
        have B7 := below_of B6 B6.size b7
        have zz7 := b7.size
        have v0 := Ob.new (b0 := w.heap.size) own7 Bp.size
        clear Bp
        replace k0_0 := cell_on b7 k0_0
        replace k0_1 := cell_on b7 k0_1
        replace k0_2 := cell_on b7 k0_2
        replace ow := ow.step b7
        clear own7 b7
        have a_k0_0 := fun o => cell_on ((Below.refl w7.heap.size w7).alloc (Nat.le_refl _) o) k0_0
        have a_k0_1 := fun o => cell_on ((Below.refl w7.heap.size w7).alloc (Nat.le_refl _) o) k0_1
        have a_k0_2 := fun o => cell_on ((Below.refl w7.heap.size w7).alloc (Nat.le_refl _) o) k0_2
        go_wp2_with fail
        clear a_k0_0 a_k0_1 a_k0_2
        obtain ⟨w8, hw8⟩ : ∃ W, W = w7.alloc (Obj.cells #[.int .i8 wi0, .int .i8 hi0, .slice (some ⟨g7, 0, none⟩) x0.length x0.length] 32) := ⟨_, rfl⟩
        have b8 : Below w7.heap.size w7 w8 := by rw [hw8]; exact (Below.refl _ _).alloc (Nat.le_refl _) _
        have kx0_0 : w8.cell? ⟨w7.heap.size, 0, none⟩ = some (.int .i8 wi0) := by rw [hw8]; simp
        have kx0_1 : w8.cell? ⟨w7.heap.size, 1, none⟩ = some (.int .i8 hi0) := by rw [hw8]; simp
        have kx0_2 : w8.cell? ⟨w7.heap.size, 2, none⟩ = some (.slice (some ⟨g7, 0, none⟩) x0.length x0.length) := by rw [hw8]; simp
        have wl8 : w7.heap.size < w8.heap.size := by rw [hw8]; simp
        rw [← hw8]
        clear hw8
        have B8 := below_of B7 B7.size b8
        have zz8 := b8.size
        replace k0_0 := cell_on b8 k0_0
        replace k0_1 := cell_on b8 k0_1
        replace k0_2 := cell_on b8 k0_2
        replace ow := ow.step b8
        replace v0 := v0.step b8
        clear b8
        refine (toS_en1_L a1 c1 y1 _ (t1.below B8) (by omega)).mono ?_
        rintro e w9 ⟨g9, rfl, b9, own9⟩
        have d_ow_v1 := ow.top
        have d_v0_v1 := v0.top
        have Bp := B8
        have B9 := below_of B8 B8.size b9
        have zz9 := b9.size
        have v1 := Ob.new (b0 := w.heap.size) own9 Bp.size
        clear Bp
        replace k0_0 := cell_on b9 k0_0
        replace k0_1 := cell_on b9 k0_1
        replace k0_2 := cell_on b9 k0_2
        replace kx0_0 := cell_on b9 kx0_0
        replace kx0_1 := cell_on b9 kx0_1
        replace kx0_2 := cell_on b9 kx0_2
        replace ow := ow.step b9
        replace v0 := v0.step b9
        clear own9 b9
        go_wp2_with fail
        refine (toS_Kn_L a2 c2 x2 _ (s2.below B9) (by omega)).mono ?_
        rintro e w10 ⟨g10, rfl, b10, own10⟩
        have d_ow_v2 := ow.top
        have d_v0_v2 := v0.top
        have d_v1_v2 := v1.top
        have Bp := B9
        have B10 := below_of B9 B9.size b10
        have zz10 := b10.size
        have v2 := Ob.new (b0 := w.heap.size) own10 Bp.size
        clear Bp
        replace k0_0 := cell_on b10 k0_0
        replace k0_1 := cell_on b10 k0_1
        replace k0_2 := cell_on b10 k0_2
        replace kx0_0 := cell_on b10 kx0_0
        replace kx0_1 := cell_on b10 kx0_1
        replace kx0_2 := cell_on b10 kx0_2
        replace ow := ow.step b10
        replace v0 := v0.step b10
        replace v1 := v1.step b10
        clear own10 b10
        go_wp2_with fail
        refine (HI.out _ _ _ (v0.sla Pc.enc_length) v0.nilcap _ _ (v1.sla en1_length) v1.nilcap v1.lencap v1.capmax _ _ (v2.sla Kn.enc_length) v2.nilcap v2.lencap v2.capmax).mono ?_
        rintro e w11 ⟨A11, ca11, rfl, b11, own11⟩
        have d_ow_og := ow.top
        have d_v0_og := v0.top
        have d_v1_og := v1.top
        have d_v2_og := v2.top
        have Bp := B10
        have B11 := below_of B10 B10.size b11
        have zz11 := b11.size
        have og := Ob.new (b0 := w.heap.size) own11 Bp.size
        clear Bp
        replace k0_0 := cell_on b11 k0_0
        replace k0_1 := cell_on b11 k0_1
        replace k0_2 := cell_on b11 k0_2
        replace kx0_0 := cell_on b11 kx0_0
        replace kx0_1 := cell_on b11 kx0_1
        replace kx0_2 := cell_on b11 kx0_2
        replace ow := ow.step b11
        replace v0 := v0.step b11
        replace v1 := v1.step b11
        replace v2 := v2.step b11
        clear own11 b11
        go_wp2_with fail
        refine (eqS_en1_L _ _ _ _ R R _ (og.sla en1_length) (ow.sla en1_length)).mono ?_
        rintro e w12 ⟨rfl, b12⟩
        have B12 := below_of B11 B11.size b12
        have zz12 := b12.size
        replace k0_0 := cell_on b12 k0_0
        replace k0_1 := cell_on b12 k0_1
        replace k0_2 := cell_on b12 k0_2
        replace kx0_0 := cell_on b12 kx0_0
        replace kx0_1 := cell_on b12 kx0_1
        replace kx0_2 := cell_on b12 kx0_2
        replace ow := ow.step b12
        replace v0 := v0.step b12
        replace v1 := v1.step b12
        replace v2 := v2.step b12
        replace og := og.step b12
        clear b12
        rw [dec_self]
        go_wp2_with fail
        have b13 : Below w12.heap.size w12 w12.drew := (Below.refl _ _).drew
        have B13 := below_of B12 B12.size b13
        have zz13 := b13.size
        replace k0_0 := cell_on b13 k0_0
        replace k0_1 := cell_on b13 k0_1
        replace k0_2 := cell_on b13 k0_2
        replace kx0_0 := cell_on b13 kx0_0
        replace kx0_1 := cell_on b13 kx0_1
        replace kx0_2 := cell_on b13 kx0_2
        replace ow := ow.step b13
        replace v0 := v0.step b13
        replace v1 := v1.step b13
        replace v2 := v2.step b13
        replace og := og.step b13
        clear b13
        go_region_held3 (fun w' => w'.cell? ⟨w7.heap.size, 0, none⟩ = some (.int .i8 wi0) ∧ w'.cell? ⟨w7.heap.size, 1, none⟩ = some (.int .i8 hi0) ∧ w'.cell? ⟨w7.heap.size, 2, none⟩ = some (.slice (some ⟨g7, 0, none⟩) x0.length x0.length) ∧ w'.cell? ⟨w.heap.size, 0, none⟩ = some (.int .i8 wi0) ∧ w'.cell? ⟨w.heap.size, 1, none⟩ = some (.int .i8 hi0) ∧ w'.cell? ⟨w.heap.size, 2, none⟩ = some (.slice a0 x0.length c0)) ((refine ⟨?_, ?_, ?_, ?_, ?_, ?_⟩ <;> assumption)) (first | (go_at_call 10; refine (to_Bd_L wi0 hi0 a0 c0 x0 _ (s0.below B13) (by omega)).mono ?_; rintro e w14 ⟨g14, rfl, b14, own14⟩; have d_ow_u0 := ow.top; have d_v0_u0 := v0.top; have d_v1_u0 := v1.top; have d_v2_u0 := v2.top; have d_og_u0 := og.top; have Bp := B13; have B14 := below_of B13 B13.size b14; have zz14 := b14.size; have u0 := Ob.new (b0 := w.heap.size) own14 Bp.size; clear Bp; replace k0_0 := cell_on b14 k0_0; replace k0_1 := cell_on b14 k0_1; replace k0_2 := cell_on b14 k0_2; replace kx0_0 := cell_on b14 kx0_0; replace kx0_1 := cell_on b14 kx0_1; replace kx0_2 := cell_on b14 kx0_2; replace ow := ow.step b14; replace v0 := v0.step b14; replace v1 := v1.step b14; replace v2 := v2.step b14; replace og := og.step b14; clear own14 b14) | (go_at_call 13; refine (eq_Bd_L wi0 hi0 wi0 hi0 _ _ _ _ x0 x0 _ (v0.sla Pc.enc_length) (u0.sla Pc.enc_length)).mono ?_; rintro e w15 ⟨rfl, b15⟩; have B15 := below_of B14 B14.size b15; have zz15 := b15.size; replace k0_0 := cell_on b15 k0_0; replace k0_1 := cell_on b15 k0_1; replace k0_2 := cell_on b15 k0_2; replace kx0_0 := cell_on b15 kx0_0; replace kx0_1 := cell_on b15 kx0_1; replace kx0_2 := cell_on b15 kx0_2; replace ow := ow.step b15; replace v0 := v0.step b15; replace v1 := v1.step b15; replace v2 := v2.step b15; replace og := og.step b15; replace u0 := u0.step b15; clear b15; rw [decide_eq_true (show wi0 = wi0 ∧ hi0 = hi0 ∧ x0 = x0 from ⟨rfl, rfl, rfl⟩)]))
        go_wp2_with fail
        clear u0
        refine (toS_en1_L a1 c1 y1 _ (t1.below B15) (by omega)).mono ?_
        rintro e w16 ⟨g16, rfl, b16, own16⟩
        have d_ow_u1 := ow.top
        have d_v0_u1 := v0.top
        have d_v1_u1 := v1.top
        have d_v2_u1 := v2.top
        have d_og_u1 := og.top
        have Bp := B15
        have B16 := below_of B15 B15.size b16
        have zz16 := b16.size
        have u1 := Ob.new (b0 := w.heap.size) own16 Bp.size
        clear Bp
        replace k0_0 := cell_on b16 k0_0
        replace k0_1 := cell_on b16 k0_1
        replace k0_2 := cell_on b16 k0_2
        replace kx0_0 := cell_on b16 kx0_0
        replace kx0_1 := cell_on b16 kx0_1
        replace kx0_2 := cell_on b16 kx0_2
        replace ow := ow.step b16
        replace v0 := v0.step b16
        replace v1 := v1.step b16
        replace v2 := v2.step b16
        replace og := og.step b16
        clear own16 b16
        go_wp2_with fail
        refine (eqS_en1_L _ _ _ _ y1 y1 _ (v1.sla en1_length) (u1.sla en1_length)).mono ?_
        rintro e w17 ⟨rfl, b17⟩
        have B17 := below_of B16 B16.size b17
        have zz17 := b17.size
        replace k0_0 := cell_on b17 k0_0
        replace k0_1 := cell_on b17 k0_1
        replace k0_2 := cell_on b17 k0_2
        replace kx0_0 := cell_on b17 kx0_0
        replace kx0_1 := cell_on b17 kx0_1
        replace kx0_2 := cell_on b17 kx0_2
        replace ow := ow.step b17
        replace v0 := v0.step b17
        replace v1 := v1.step b17
        replace v2 := v2.step b17
        replace og := og.step b17
        replace u1 := u1.step b17
        clear b17
        rw [dec_self]
        go_wp2_with fail
        clear u1
        refine (toS_Kn_L a2 c2 x2 _ (s2.below B17) (by omega)).mono ?_
        rintro e w18 ⟨g18, rfl, b18, own18⟩
        have d_ow_u2 := ow.top
        have d_v0_u2 := v0.top
        have d_v1_u2 := v1.top
        have d_v2_u2 := v2.top
        have d_og_u2 := og.top
        have Bp := B17
        have B18 := below_of B17 B17.size b18
        have zz18 := b18.size
        have u2 := Ob.new (b0 := w.heap.size) own18 Bp.size
        clear Bp
        replace k0_0 := cell_on b18 k0_0
        replace k0_1 := cell_on b18 k0_1
        replace k0_2 := cell_on b18 k0_2
        replace kx0_0 := cell_on b18 kx0_0
        replace kx0_1 := cell_on b18 kx0_1
        replace kx0_2 := cell_on b18 kx0_2
        replace ow := ow.step b18
        replace v0 := v0.step b18
        replace v1 := v1.step b18
        replace v2 := v2.step b18
        replace og := og.step b18
        clear own18 b18
        go_wp2_with fail
        refine (eqS_Kn_L _ _ _ _ x2 x2 _ (v2.sla Kn.enc_length) (u2.sla Kn.enc_length)).mono ?_
        rintro e w19 ⟨rfl, b19⟩
        have B19 := below_of B18 B18.size b19
        have zz19 := b19.size
        replace k0_0 := cell_on b19 k0_0
        replace k0_1 := cell_on b19 k0_1
        replace k0_2 := cell_on b19 k0_2
        replace kx0_0 := cell_on b19 kx0_0
        replace kx0_1 := cell_on b19 kx0_1
        replace kx0_2 := cell_on b19 kx0_2
        replace ow := ow.step b19
        replace v0 := v0.step b19
        replace v1 := v1.step b19
        replace v2 := v2.step b19
        replace og := og.step b19
        replace u2 := u2.step b19
        clear b19
        rw [dec_self]
        go_wp2_with fail
        clear u2
        clear kx0_0
        clear kx0_1
        clear kx0_2
        refine (markS_Bd_L _ wi0 hi0 _ _ x0 (1) _ v0.own (by omega) (by omega) (by omega)).mono ?_
        rintro e w20 ⟨rfl, hg20, own20⟩
        have Bn := v0.below B19 hg20
        have zz20 := hg20.size
        replace k0_0 := by first | exact cell_mark v0 k0_0 hg20 (by dsimp only; omega) | exact cell_mark2 v0 k0_0 hg20 (by dsimp only; omega)
        replace k0_1 := by first | exact cell_mark v0 k0_1 hg20 (by dsimp only; omega) | exact cell_mark2 v0 k0_1 hg20 (by dsimp only; omega)
        replace k0_2 := by first | exact cell_mark v0 k0_2 hg20 (by dsimp only; omega) | exact cell_mark2 v0 k0_2 hg20 (by dsimp only; omega)
        replace ow := ow.other v0 hg20 (by omega)
        replace v1 := v1.other v0 hg20 (by omega)
        replace v2 := v2.other v0 hg20 (by omega)
        replace og := og.other v0 hg20 (by omega)
        replace v0 := v0.marked (ys := markL Pc.mk_ 5 x0.length (1)) (markL_length _ _ _ _) own20 hg20
        have B20 := Bn
        clear Bn hg20 own20
        go_wp2_with fail
        refine (markS_en1_L _ _ _ y1 (1 + 5 * (x0.length : Int)) _ v1.own (by omega) (by omega) (by omega)).mono ?_
        rintro e w21 ⟨rfl, hg21, own21⟩
        have Bn := v1.below B20 hg21
        have zz21 := hg21.size
        replace k0_0 := by first | exact cell_mark v1 k0_0 hg21 (by dsimp only; omega) | exact cell_mark2 v1 k0_0 hg21 (by dsimp only; omega)
        replace k0_1 := by first | exact cell_mark v1 k0_1 hg21 (by dsimp only; omega) | exact cell_mark2 v1 k0_1 hg21 (by dsimp only; omega)
        replace k0_2 := by first | exact cell_mark v1 k0_2 hg21 (by dsimp only; omega) | exact cell_mark2 v1 k0_2 hg21 (by dsimp only; omega)
        replace ow := ow.other v1 hg21 (by omega)
        replace v0 := v0.other v1 hg21 (by omega)
        replace v2 := v2.other v1 hg21 (by omega)
        replace og := og.other v1 hg21 (by omega)
        replace v1 := v1.marked (ys := markL id 1 y1.length (1 + 5 * (x0.length : Int))) (markL_length _ _ _ _) own21 hg21
        have B21 := Bn
        clear Bn hg21 own21
        go_wp2_with fail
        refine (markS_Kn_L _ _ _ x2 (1 + 5 * (x0.length : Int) + (y1.length : Int)) _ v2.own (by omega) (by omega) (by omega)).mono ?_
        rintro e w22 ⟨rfl, hg22, own22⟩
        have Bn := v2.below B21 hg22
        have zz22 := hg22.size
        replace k0_0 := by first | exact cell_mark v2 k0_0 hg22 (by dsimp only; omega) | exact cell_mark2 v2 k0_0 hg22 (by dsimp only; omega)
        replace k0_1 := by first | exact cell_mark v2 k0_1 hg22 (by dsimp only; omega) | exact cell_mark2 v2 k0_1 hg22 (by dsimp only; omega)
        replace k0_2 := by first | exact cell_mark v2 k0_2 hg22 (by dsimp only; omega) | exact cell_mark2 v2 k0_2 hg22 (by dsimp only; omega)
        replace ow := ow.other v2 hg22 (by omega)
        replace v0 := v0.other v2 hg22 (by omega)
        replace v1 := v1.other v2 hg22 (by omega)
        replace og := og.other v2 hg22 (by omega)
        replace v2 := v2.marked (ys := markL Kn.mk_ 3 x2.length (1 + 5 * (x0.length : Int) + (y1.length : Int))) (markL_length _ _ _ _) own22 hg22
        have B22 := Bn
        clear Bn hg22 own22
        go_wp2_with fail
        refine (eqS_en1_L _ _ _ _ R R _ (og.sla en1_length) (ow.sla en1_length)).mono ?_
        rintro e w23 ⟨rfl, b23⟩
        have B23 := below_of B22 B22.size b23
        have zz23 := b23.size
        replace k0_0 := cell_on b23 k0_0
        replace k0_1 := cell_on b23 k0_1
        replace k0_2 := cell_on b23 k0_2
        replace ow := ow.step b23
        replace v0 := v0.step b23
        replace v1 := v1.step b23
        replace v2 := v2.step b23
        replace og := og.step b23
        clear b23
        rw [dec_self]
        go_wp2_with fail
        refine (markS_en1_L _ _ _ R (1) _ og.own (by omega) (by omega) (by omega)).mono ?_
        rintro e w24 ⟨rfl, hg24, own24⟩
        have Bn := og.below B23 hg24
        have zz24 := hg24.size
        replace k0_0 := by first | exact cell_mark og k0_0 hg24 (by dsimp only; omega) | exact cell_mark2 og k0_0 hg24 (by dsimp only; omega)
        replace k0_1 := by first | exact cell_mark og k0_1 hg24 (by dsimp only; omega) | exact cell_mark2 og k0_1 hg24 (by dsimp only; omega)
        replace k0_2 := by first | exact cell_mark og k0_2 hg24 (by dsimp only; omega) | exact cell_mark2 og k0_2 hg24 (by dsimp only; omega)
        replace ow := ow.other og hg24 (by omega)
        replace v0 := v0.other og hg24 (by omega)
        replace v1 := v1.other og hg24 (by omega)
        replace v2 := v2.other og hg24 (by omega)
        replace og := og.marked (ys := markL id 1 R.length (1)) (markL_length _ _ _ _) own24 hg24
        have B24 := Bn
        clear Bn hg24 own24
        go_wp2_with fail
        refine (heldS_en1_L _ _ R.length 1 _ (og.sla en1_length) (by omega) (by omega) (by omega)).mono ?_
        rintro e w25 ⟨rfl, rfl⟩
        go_wp2_with fail
        refine (to_Bd_L wi0 hi0 a0 c0 x0 _ (s0.below B24) (by omega)).mono ?_
        rintro e w26 ⟨g26, rfl, b26, own26⟩
        have d_ow_p0 := ow.top
        have d_v0_p0 := v0.top
        have d_v1_p0 := v1.top
        have d_v2_p0 := v2.top
        have d_og_p0 := og.top
        have Bp := B24
        have B26 := below_of B24 B24.size b26
        have zz26 := b26.size
        have p0 := Ob.new (b0 := w.heap.size) own26 Bp.size
        clear Bp
        replace k0_0 := cell_on b26 k0_0
        replace k0_1 := cell_on b26 k0_1
        replace k0_2 := cell_on b26 k0_2
        replace ow := ow.step b26
        replace v0 := v0.step b26
        replace v1 := v1.step b26
        replace v2 := v2.step b26
        replace og := og.step b26
        clear own26 b26
        go_wp2_with fail
        refine (toS_en1_L a1 c1 y1 _ (t1.below B26) (by omega)).mono ?_
        rintro e w27 ⟨g27, rfl, b27, own27⟩
        have d_ow_p1 := ow.top
        have d_v0_p1 := v0.top
        have d_v1_p1 := v1.top
        have d_v2_p1 := v2.top
        have d_og_p1 := og.top
        have d_p0_p1 := p0.top
        have Bp := B26
        have B27 := below_of B26 B26.size b27
        have zz27 := b27.size
        have p1 := Ob.new (b0 := w.heap.size) own27 Bp.size
        clear Bp
        replace k0_0 := cell_on b27 k0_0
        replace k0_1 := cell_on b27 k0_1
        replace k0_2 := cell_on b27 k0_2
        replace ow := ow.step b27
        replace v0 := v0.step b27
        replace v1 := v1.step b27
        replace v2 := v2.step b27
        replace og := og.step b27
        replace p0 := p0.step b27
        clear own27 b27
        go_wp2_with fail
        refine (toS_Kn_L a2 c2 x2 _ (s2.below B27) (by omega)).mono ?_
        rintro e w28 ⟨g28, rfl, b28, own28⟩
        have d_ow_p2 := ow.top
        have d_v0_p2 := v0.top
        have d_v1_p2 := v1.top
        have d_v2_p2 := v2.top
        have d_og_p2 := og.top
        have d_p0_p2 := p0.top
        have d_p1_p2 := p1.top
        have Bp := B27
        have B28 := below_of B27 B27.size b28
        have zz28 := b28.size
        have p2 := Ob.new (b0 := w.heap.size) own28 Bp.size
        clear Bp
        replace k0_0 := cell_on b28 k0_0
        replace k0_1 := cell_on b28 k0_1
        replace k0_2 := cell_on b28 k0_2
        replace ow := ow.step b28
        replace v0 := v0.step b28
        replace v1 := v1.step b28
        replace v2 := v2.step b28
        replace og := og.step b28
        replace p0 := p0.step b28
        replace p1 := p1.step b28
        clear own28 b28
        go_wp2_with fail
        refine (HI.out _ _ _ (p0.sla Pc.enc_length) p0.nilcap _ _ (p1.sla en1_length) p1.nilcap p1.lencap p1.capmax _ _ (p2.sla Kn.enc_length) p2.nilcap p2.lencap p2.capmax).mono ?_
        rintro e w29 ⟨A29, ca29, rfl, b29, own29⟩
        have d_ow_oh := ow.top
        have d_v0_oh := v0.top
        have d_v1_oh := v1.top
        have d_v2_oh := v2.top
        have d_og_oh := og.top
        have d_p0_oh := p0.top
        have d_p1_oh := p1.top
        have d_p2_oh := p2.top
        have Bp := B28
        have B29 := below_of B28 B28.size b29
        have zz29 := b29.size
        have oh := Ob.new (b0 := w.heap.size) own29 Bp.size
        clear Bp
        replace k0_0 := cell_on b29 k0_0
        replace k0_1 := cell_on b29 k0_1
        replace k0_2 := cell_on b29 k0_2
        replace ow := ow.step b29
        replace v0 := v0.step b29
        replace v1 := v1.step b29
        replace v2 := v2.step b29
        replace og := og.step b29
        replace p0 := p0.step b29
        replace p1 := p1.step b29
        replace p2 := p2.step b29
        clear own29 b29
        go_wp2_with fail
        refine (eqS_en1_L _ _ _ _ R R _ (oh.sla en1_length) (ow.sla en1_length)).mono ?_
        rintro e w30 ⟨rfl, b30⟩
        have B30 := below_of B29 B29.size b30
        have zz30 := b30.size
        replace k0_0 := cell_on b30 k0_0
        replace k0_1 := cell_on b30 k0_1
        replace k0_2 := cell_on b30 k0_2
        replace ow := ow.step b30
        replace v0 := v0.step b30
        replace v1 := v1.step b30
        replace v2 := v2.step b30
        replace og := og.step b30
        replace p0 := p0.step b30
        replace p1 := p1.step b30
        replace p2 := p2.step b30
        replace oh := oh.step b30
        clear b30
        rw [dec_self]
        go_wp2_with fail
        refine (heldS_en1_L _ _ R.length 1 _ (og.sla en1_length) (by omega) (by omega) (by omega)).mono ?_
        rintro e w31 ⟨rfl, rfl⟩
        go_wp2_with fail
        go_ret
        exact ⟨rfl, B30⟩
      · skip
        simp only [show (1048576 : Int) - (x0.length : Int) - (x2.length : Int) < 0 from by omega, if_true] at z2
        have Z2 := hid z2
        clear z2
        go_enter Tryz.func7, Tryz.ntmps7
        go_wp2_with fail
        obtain ⟨wb, hwb⟩ : ∃ wb, wb = w.alloc (Obj.cells #[.int .i8 wi0, .int .i8 hi0, .slice a0 x0.length c0] 25) := ⟨_, rfl⟩
        have B0 : Below w.heap.size w wb := by rw [hwb]; exact (Below.refl _ _).alloc (Nat.le_refl _) _
        have k0_0 : wb.cell? ⟨w.heap.size, 0, none⟩ = some (.int .i8 wi0) := by rw [hwb]; simp
        have k0_1 : wb.cell? ⟨w.heap.size, 1, none⟩ = some (.int .i8 hi0) := by rw [hwb]; simp
        have k0_2 : wb.cell? ⟨w.heap.size, 2, none⟩ = some (.slice a0 x0.length c0) := by rw [hwb]; simp
        have wlt : w.heap.size < wb.heap.size := by rw [hwb]; simp
        rw [← hwb]
        clear hwb
        refine (Z0.out _).mono ?_
        rintro e w1 ⟨rfl, b1⟩
        have B1 := below_of B0 B0.size b1
        have zz1 := b1.size
        replace k0_0 := cell_on b1 k0_0
        replace k0_1 := cell_on b1 k0_1
        replace k0_2 := cell_on b1 k0_2
        clear b1
        go_wp2_with fail
        refine (Z2.out _).mono ?_
        rintro e w2 ⟨rfl, rfl⟩
        go_wp2_with fail
        go_ret
        exact ⟨rfl, B1⟩
    · skip
      simp only [show (1048576 : Int) - (x0.length : Int) < 0 from by omega, if_true] at z0
      have Z0 := hid z0
      clear z0
      go_enter Tryz.func7, Tryz.ntmps7
      go_wp2_with fail
      obtain ⟨wb, hwb⟩ : ∃ wb, wb = w.alloc (Obj.cells #[.int .i8 wi0, .int .i8 hi0, .slice a0 x0.length c0] 25) := ⟨_, rfl⟩
      have B0 : Below w.heap.size w wb := by rw [hwb]; exact (Below.refl _ _).alloc (Nat.le_refl _) _
      have k0_0 : wb.cell? ⟨w.heap.size, 0, none⟩ = some (.int .i8 wi0) := by rw [hwb]; simp
      have k0_1 : wb.cell? ⟨w.heap.size, 1, none⟩ = some (.int .i8 hi0) := by rw [hwb]; simp
      have k0_2 : wb.cell? ⟨w.heap.size, 2, none⟩ = some (.slice a0 x0.length c0) := by rw [hwb]; simp
      have wlt : w.heap.size < wb.heap.size := by rw [hwb]; simp
      rw [← hwb]
      clear hwb
      refine (Z0.out _).mono ?_
      rintro e w1 ⟨rfl, b1⟩
      have B1 := below_of B0 B0.size b1
      have zz1 := b1.size
      replace k0_0 := cell_on b1 k0_0
      replace k0_1 := cell_on b1 k0_1
      replace k0_2 := cell_on b1 k0_2
      clear b1
      go_wp2_with fail
      go_ret
      exact ⟨rfl, B1⟩
  · skip
    go_enter Tryz.func7, Tryz.ntmps7
    go_wp2_with fail
    obtain ⟨wb, hwb⟩ : ∃ wb, wb = w.alloc (Obj.cells #[.int .i8 wi0, .int .i8 hi0, .slice a0 x0.length c0] 25) := ⟨_, rfl⟩
    have B0 : Below w.heap.size w wb := by rw [hwb]; exact (Below.refl _ _).alloc (Nat.le_refl _) _
    have k0_0 : wb.cell? ⟨w.heap.size, 0, none⟩ = some (.int .i8 wi0) := by rw [hwb]; simp
    have k0_1 : wb.cell? ⟨w.heap.size, 1, none⟩ = some (.int .i8 hi0) := by rw [hwb]; simp
    have k0_2 : wb.cell? ⟨w.heap.size, 2, none⟩ = some (.slice a0 x0.length c0) := by rw [hwb]; simp
    have wlt : w.heap.size < wb.heap.size := by rw [hwb]; simp
    rw [← hwb]
    clear hwb
    go_ret
    exact ⟨rfl, B0⟩
end Go.Proofs.YtebefcfalnkdmaaGreat
