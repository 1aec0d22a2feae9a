/-
  FnExactBestOrder' call: it returns true, whatever the arguments are.
  Conditions: none beyond the statement's own.
-/
import Derived.Test.YtgkgklgeobbmlaaConvBd
import Derived.Test.YtgkgklgeobbmlaaConvWy
import Derived.Test.YtgkgklgeobbmlaaConvNu
import Derived.Test.YtgkgklgeobbmlaaBestR
import Derived.Test.YtgkgklgeobbmlaaOb
import Derived.Deep.RegionHeld3
namespace Go.Proofs.Ytgkgklgeobbmlaa
open Go.RowKit
set_option linter.unusedSimpArgs false
set_option linter.unusedVariables false

set_option maxRecDepth 100000 in
set_option maxHeartbeats 4000000 in
theorem law_FnExactBestOrder (w : World) (wi0 hi0 : Int) (wl0 : -128 ≤ wi0) (wu0 : wi0 ≤ 127) (hl0 : -128 ≤ hi0) (hu0 : hi0 ≤ 127) (a0 : Option Addr) (c0 : Nat) (x0 : List Pc) (ok0 : ∀ p ∈ x0, p.Ok) (s0 : SlA Pc.enc 5 w a0 x0) (a1 : Option Addr) (c1 : Nat) (x1 : List Wy) (ok1 : ∀ p ∈ x1, p.Ok) (s1 : SlA Wy.enc 6 w a1 x1) :
    Calls Try.prog 5 #[.agg #[.int .i8 wi0, .int .i8 hi0, .slice a0 x0.length c0], .slice a1 x1.length c1] w fun e w' => e = .returned (.bool true) ∧ Below w.heap.size w w' := by
  have m0 := s0.small
  have m1 := s1.small
  have z0 := fun W => sz_Bd_L wi0 hi0 a0 x0.length c0 ((1048576 : Int)) W (by omega) (by omega) m0
  by_cases h0 : x0.length ≤ 1048576
  · skip
    simp only [show ¬ ((1048576 : Int) - (x0.length : Int) < 0) from by omega, if_false] at z0
    have l0 : (0 : Int) ≤ (1048576 : Int) - (x0.length : Int) := by omega
    have Z0 := hid z0
    clear z0
    have z1 := fun W => sz_Wy_L a1 x1.length c1 ((1048576 : Int) - (x0.length : Int)) W (by omega) (by omega) m1
    by_cases h1 : x0.length + x1.length ≤ 1048576
    · skip
      simp only [show ¬ ((1048576 : Int) - (x0.length : Int) - (x1.length : Int) < 0) from by omega, if_false] at z1
      have l1 : (0 : Int) ≤ (1048576 : Int) - (x0.length : Int) - (x1.length : Int) := by omega
      have Z1 := hid z1
      clear z1
      have HS := fun (W : World) (A0 : Option Addr) (C0 : Nat) (h0 : SlA Pc.enc 5 W A0 x0) (q0 : A0 = none → C0 = 0) (A1 : Option Addr) (C1 : Nat) (h1 : SlA Wy.enc 6 W A1 x1) (q1 : A1 = none → C1 = 0) => BestOrder_S W wi0 hi0 wl0 wu0 hl0 hu0 A0 C0 x0 h0 q0 ok0 (by omega) A1 C1 x1 h1 q1 ok1 (by omega)
      have HI := fun (W : World) (A0 : Option Addr) (C0 : Nat) (h0 : SlA Pc.enc 5 W A0 x0) (q0 : A0 = none → C0 = 0) (A1 : Option Addr) (C1 : Nat) (h1 : SlA Wy.enc 6 W A1 x1) (q1 : A1 = none → C1 = 0) => BestOrder_I W wi0 hi0 wl0 wu0 hl0 hu0 A0 C0 x0 h0 q0 ok0 (by omega) A1 C1 x1 h1 q1 ok1 (by omega)
      have hRl := BestOrder_len wi0 hi0 x0 x1 (by omega)
      obtain ⟨R, hR⟩ : ∃ R, (BestOrderG wi0 hi0 x0 x1).1 = R := ⟨_, rfl⟩
      obtain ⟨sd, hsd⟩ : ∃ sd, (BestOrderG wi0 hi0 x0 x1).2.1 = sd := ⟨_, rfl⟩
      obtain ⟨cd, hcd⟩ : ∃ cd, (BestOrderG wi0 hi0 x0 x1).2.2 = cd := ⟨_, rfl⟩
      rw [hR] at hRl
      simp only [hR, hsd, hcd] at HS HI
      replace HS := hid HS
      replace HI := hid HI
      clear hR hcd hsd
      have sdd : (sd != sd) = false := by simp
      have cdd : (cd != cd) = false := by simp
      go_enter Try.func5, Try.ntmps5
      go_wp2_with fail
      obtain ⟨wb, hwb⟩ : ∃ wb, wb = w.alloc (Obj.cells #[.int .i8 wi0, .int .i8 hi0, .slice a0 x0.length c0] 25) := ⟨_, rfl⟩
      have B0 : Below w.heap.size w wb := by rw [hwb]; exact (Below.refl _ _).alloc (Nat.le_refl _) _
      have k0_0 : wb.cell? ⟨w.heap.size, 0, none⟩ = some (.int .i8 wi0) := by rw [hwb]; simp
      have k0_1 : wb.cell? ⟨w.heap.size, 1, none⟩ = some (.int .i8 hi0) := by rw [hwb]; simp
      have k0_2 : wb.cell? ⟨w.heap.size, 2, none⟩ = some (.slice a0 x0.length c0) := by rw [hwb]; simp
      have wlt : w.heap.size < wb.heap.size := by rw [hwb]; simp
      rw [← hwb]
      clear hwb
      have wsz := B0.size
      refine (Z0.out _).mono ?_
      rintro e w1 ⟨rfl, b1⟩
      have B1 := below_of B0 B0.size b1
      have zz1 := b1.size
      replace k0_0 := cell_on b1 k0_0
      replace k0_1 := cell_on b1 k0_1
      replace k0_2 := cell_on b1 k0_2
      clear b1
      go_wp2_with fail
      refine (Z1.out _).mono ?_
      rintro e w2 ⟨rfl, rfl⟩
      go_wp2_with fail
      refine (to_Bd_L wi0 hi0 a0 c0 x0 _ (s0.below B1) (by omega)).mono ?_
      rintro e w3 ⟨g3, rfl, b3, own3⟩
      have Bp := B1
      have B3 := below_of B1 B1.size b3
      have zz3 := b3.size
      have p0 := Ob.new (b0 := w.heap.size) own3 Bp.size
      clear Bp
      replace k0_0 := cell_on b3 k0_0
      replace k0_1 := cell_on b3 k0_1
      replace k0_2 := cell_on b3 k0_2
      clear own3 b3
      go_wp2_with fail
      refine (toS_Wy_L a1 c1 x1 _ (s1.below B3) (by omega)).mono ?_
      rintro e w4 ⟨g4, rfl, b4, own4⟩
      have d_p0_p1 := p0.top
      have Bp := B3
      have B4 := below_of B3 B3.size b4
      have zz4 := b4.size
      have p1 := Ob.new (b0 := w.heap.size) own4 Bp.size
      clear Bp
      replace k0_0 := cell_on b4 k0_0
      replace k0_1 := cell_on b4 k0_1
      replace k0_2 := cell_on b4 k0_2
      replace p0 := p0.step b4
      clear own4 b4
      go_wp2_with fail
      refine (HS.out _ _ _ (p0.sla Pc.enc_length) p0.nilcap _ _ (p1.sla Wy.enc_length) p1.nilcap).mono ?_
      rintro e w5 ⟨A5, ca5, rfl, b5, own5⟩
      have d_p0_ow := p0.top
      have d_p1_ow := p1.top
      have Bp := B4
      have B5 := below_of B4 B4.size b5
      have zz5 := b5.size
      have ow := Ob.new (b0 := w.heap.size) own5 Bp.size
      clear Bp
      replace k0_0 := cell_on b5 k0_0
      replace k0_1 := cell_on b5 k0_1
      replace k0_2 := cell_on b5 k0_2
      replace p0 := p0.step b5
      replace p1 := p1.step b5
      clear own5 b5
      go_wp2_with fail
      clear p0 p1
      refine (to_Bd_L wi0 hi0 a0 c0 x0 _ (s0.below B5) (by omega)).mono ?_
      rintro e w6 ⟨g6, rfl, b6, own6⟩
      have d_ow_v0 := ow.top
      have Bp := B5
      have B6 := below_of B5 B5.size b6
      have zz6 := b6.size
      have v0 := Ob.new (b0 := w.heap.size) own6 Bp.size
      clear Bp
      replace k0_0 := cell_on b6 k0_0
      replace k0_1 := cell_on b6 k0_1
      replace k0_2 := cell_on b6 k0_2
      replace ow := ow.step b6
      clear own6 b6
      have a_k0_0 := fun o => cell_on ((Below.refl w6.heap.size w6).alloc (Nat.le_refl _) o) k0_0
      have a_k0_1 := fun o => cell_on ((Below.refl w6.heap.size w6).alloc (Nat.le_refl _) o) k0_1
      have a_k0_2 := fun o => cell_on ((Below.refl w6.heap.size w6).alloc (Nat.le_refl _) o) k0_2
      go_wp2_with fail
      clear a_k0_0 a_k0_1 a_k0_2
      obtain ⟨w7, hw7⟩ : ∃ W, W = w6.alloc (Obj.cells #[.int .i8 wi0, .int .i8 hi0, .slice (some ⟨g6, 0, none⟩) x0.length x0.length] 32) := ⟨_, rfl⟩
      have b7 : Below w6.heap.size w6 w7 := by rw [hw7]; exact (Below.refl _ _).alloc (Nat.le_refl _) _
      have kx0_0 : w7.cell? ⟨w6.heap.size, 0, none⟩ = some (.int .i8 wi0) := by rw [hw7]; simp
      have kx0_1 : w7.cell? ⟨w6.heap.size, 1, none⟩ = some (.int .i8 hi0) := by rw [hw7]; simp
      have kx0_2 : w7.cell? ⟨w6.heap.size, 2, none⟩ = some (.slice (some ⟨g6, 0, none⟩) x0.length x0.length) := by rw [hw7]; simp
      have wl7 : w6.heap.size < w7.heap.size := by rw [hw7]; simp
      rw [← hw7]
      clear hw7
      have B7 := below_of B6 B6.size b7
      have zz7 := b7.size
      replace k0_0 := cell_on b7 k0_0
      replace k0_1 := cell_on b7 k0_1
      replace k0_2 := cell_on b7 k0_2
      replace ow := ow.step b7
      replace v0 := v0.step b7
      clear b7
      refine (toS_Wy_L a1 c1 x1 _ (s1.below B7) (by omega)).mono ?_
      rintro e w8 ⟨g8, rfl, b8, own8⟩
      have d_ow_v1 := ow.top
      have d_v0_v1 := v0.top
      have Bp := B7
      have B8 := below_of B7 B7.size b8
      have zz8 := b8.size
      have v1 := Ob.new (b0 := w.heap.size) own8 Bp.size
      clear Bp
      replace k0_0 := cell_on b8 k0_0
      replace k0_1 := cell_on b8 k0_1
      replace k0_2 := cell_on b8 k0_2
      replace kx0_0 := cell_on b8 kx0_0
      replace kx0_1 := cell_on b8 kx0_1
      replace kx0_2 := cell_on b8 kx0_2
      replace ow := ow.step b8
      replace v0 := v0.step b8
      clear own8 b8
      go_wp2_with fail
      refine (HI.out _ _ _ (v0.sla Pc.enc_length) v0.nilcap _ _ (v1.sla Wy.enc_length) v1.nilcap).mono ?_
      rintro e w9 ⟨A9, ca9, rfl, b9, own9⟩
      have d_ow_og := ow.top
      have d_v0_og := v0.top
      have d_v1_og := v1.top
      have Bp := B8
      have B9 := below_of B8 B8.size b9
      have zz9 := b9.size
      have og := Ob.new (b0 := w.heap.size) own9 Bp.size
      clear Bp
      replace k0_0 := cell_on b9 k0_0
      replace k0_1 := cell_on b9 k0_1
      replace k0_2 := cell_on b9 k0_2
      replace kx0_0 := cell_on b9 kx0_0
      replace kx0_1 := cell_on b9 kx0_1
      replace kx0_2 := cell_on b9 kx0_2
      replace ow := ow.step b9
      replace v0 := v0.step b9
      replace v1 := v1.step b9
      clear own9 b9
      go_wp2_with fail
      refine (eqS_en1_L _ _ _ _ R R _ (og.sla en1_length) (ow.sla en1_length)).mono ?_
      rintro e w10 ⟨rfl, b10⟩
      have B10 := below_of B9 B9.size b10
      have zz10 := b10.size
      replace k0_0 := cell_on b10 k0_0
      replace k0_1 := cell_on b10 k0_1
      replace k0_2 := cell_on b10 k0_2
      replace kx0_0 := cell_on b10 kx0_0
      replace kx0_1 := cell_on b10 kx0_1
      replace kx0_2 := cell_on b10 kx0_2
      replace ow := ow.step b10
      replace v0 := v0.step b10
      replace v1 := v1.step b10
      replace og := og.step b10
      clear b10
      rw [dec_self]
      go_wp2_with fail
      have b11 : Below w10.heap.size w10 w10.drew := (Below.refl _ _).drew
      have B11 := below_of B10 B10.size b11
      have zz11 := b11.size
      replace k0_0 := cell_on b11 k0_0
      replace k0_1 := cell_on b11 k0_1
      replace k0_2 := cell_on b11 k0_2
      replace kx0_0 := cell_on b11 kx0_0
      replace kx0_1 := cell_on b11 kx0_1
      replace kx0_2 := cell_on b11 kx0_2
      replace ow := ow.step b11
      replace v0 := v0.step b11
      replace v1 := v1.step b11
      replace og := og.step b11
      clear b11
      go_region_held3 (fun w' => w'.cell? ⟨w6.heap.size, 0, none⟩ = some (.int .i8 wi0) ∧ w'.cell? ⟨w6.heap.size, 1, none⟩ = some (.int .i8 hi0) ∧ w'.cell? ⟨w6.heap.size, 2, none⟩ = some (.slice (some ⟨g6, 0, none⟩) x0.length x0.length) ∧ w'.cell? ⟨w.heap.size, 0, none⟩ = some (.int .i8 wi0) ∧ w'.cell? ⟨w.heap.size, 1, none⟩ = some (.int .i8 hi0) ∧ w'.cell? ⟨w.heap.size, 2, none⟩ = some (.slice a0 x0.length c0)) ((refine ⟨?_, ?_, ?_, ?_, ?_, ?_⟩ <;> assumption)) (first | (go_at_call 9; refine (to_Bd_L wi0 hi0 a0 c0 x0 _ (s0.below B11) (by omega)).mono ?_; rintro e w12 ⟨g12, rfl, b12, own12⟩; have d_ow_u0 := ow.top; have d_v0_u0 := v0.top; have d_v1_u0 := v1.top; have d_og_u0 := og.top; have Bp := B11; have B12 := below_of B11 B11.size b12; have zz12 := b12.size; have u0 := Ob.new (b0 := w.heap.size) own12 Bp.size; clear Bp; replace k0_0 := cell_on b12 k0_0; replace k0_1 := cell_on b12 k0_1; replace k0_2 := cell_on b12 k0_2; replace kx0_0 := cell_on b12 kx0_0; replace kx0_1 := cell_on b12 kx0_1; replace kx0_2 := cell_on b12 kx0_2; replace ow := ow.step b12; replace v0 := v0.step b12; replace v1 := v1.step b12; replace og := og.step b12; clear own12 b12) | (go_at_call 12; refine (eq_Bd_L wi0 hi0 wi0 hi0 _ _ _ _ x0 x0 _ (v0.sla Pc.enc_length) (u0.sla Pc.enc_length)).mono ?_; rintro e w13 ⟨rfl, b13⟩; have B13 := below_of B12 B12.size b13; have zz13 := b13.size; replace k0_0 := cell_on b13 k0_0; replace k0_1 := cell_on b13 k0_1; replace k0_2 := cell_on b13 k0_2; replace kx0_0 := cell_on b13 kx0_0; replace kx0_1 := cell_on b13 kx0_1; replace kx0_2 := cell_on b13 kx0_2; replace ow := ow.step b13; replace v0 := v0.step b13; replace v1 := v1.step b13; replace og := og.step b13; replace u0 := u0.step b13; clear b13; rw [decide_eq_true (show wi0 = wi0 ∧ hi0 = hi0 ∧ x0 = x0 from ⟨rfl, rfl, rfl⟩)]))
      go_wp2_with fail
      clear u0
      refine (toS_Wy_L a1 c1 x1 _ (s1.below B13) (by omega)).mono ?_
      rintro e w14 ⟨g14, rfl, b14, own14⟩
      have d_ow_u1 := ow.top
      have d_v0_u1 := v0.top
      have d_v1_u1 := v1.top
      have d_og_u1 := og.top
      have Bp := B13
      have B14 := below_of B13 B13.size b14
      have zz14 := b14.size
      have u1 := Ob.new (b0 := w.heap.size) own14 Bp.size
      clear Bp
      replace k0_0 := cell_on b14 k0_0
      replace k0_1 := cell_on b14 k0_1
      replace k0_2 := cell_on b14 k0_2
      replace kx0_0 := cell_on b14 kx0_0
      replace kx0_1 := cell_on b14 kx0_1
      replace kx0_2 := cell_on b14 kx0_2
      replace ow := ow.step b14
      replace v0 := v0.step b14
      replace v1 := v1.step b14
      replace og := og.step b14
      clear own14 b14
      go_wp2_with fail
      refine (eqS_Wy_L _ _ _ _ x1 x1 _ (v1.sla Wy.enc_length) (u1.sla Wy.enc_length)).mono ?_
      rintro e w15 ⟨rfl, b15⟩
      have B15 := below_of B14 B14.size b15
      have zz15 := b15.size
      replace k0_0 := cell_on b15 k0_0
      replace k0_1 := cell_on b15 k0_1
      replace k0_2 := cell_on b15 k0_2
      replace kx0_0 := cell_on b15 kx0_0
      replace kx0_1 := cell_on b15 kx0_1
      replace kx0_2 := cell_on b15 kx0_2
      replace ow := ow.step b15
      replace v0 := v0.step b15
      replace v1 := v1.step b15
      replace og := og.step b15
      replace u1 := u1.step b15
      clear b15
      rw [dec_self]
      go_wp2_with fail
      clear u1
      clear kx0_0
      clear kx0_1
      clear kx0_2
      refine (markS_Bd_L _ wi0 hi0 _ _ x0 (1) _ v0.own (by omega) (by omega) (by omega)).mono ?_
      rintro e w16 ⟨rfl, hg16, own16⟩
      have Bn := v0.below B15 hg16
      have zz16 := hg16.size
      replace k0_0 := by first | exact cell_mark v0 k0_0 hg16 (by dsimp only; omega) | exact cell_mark2 v0 k0_0 hg16 (by dsimp only; omega)
      replace k0_1 := by first | exact cell_mark v0 k0_1 hg16 (by dsimp only; omega) | exact cell_mark2 v0 k0_1 hg16 (by dsimp only; omega)
      replace k0_2 := by first | exact cell_mark v0 k0_2 hg16 (by dsimp only; omega) | exact cell_mark2 v0 k0_2 hg16 (by dsimp only; omega)
      replace ow := ow.other v0 hg16 (by omega)
      replace v1 := v1.other v0 hg16 (by omega)
      replace og := og.other v0 hg16 (by omega)
      replace v0 := v0.marked (ys := markL Pc.mk_ 5 x0.length (1)) (markL_length _ _ _ _) own16 hg16
      have B16 := Bn
      clear Bn hg16 own16
      go_wp2_with fail
      refine (markS_Wy_L _ _ _ x1 (1 + 5 * (x0.length : Int)) _ v1.own (by omega) (by omega) (by omega)).mono ?_
      rintro e w17 ⟨rfl, hg17, own17⟩
      have Bn := v1.below B16 hg17
      have zz17 := hg17.size
      replace k0_0 := by first | exact cell_mark v1 k0_0 hg17 (by dsimp only; omega) | exact cell_mark2 v1 k0_0 hg17 (by dsimp only; omega)
      replace k0_1 := by first | exact cell_mark v1 k0_1 hg17 (by dsimp only; omega) | exact cell_mark2 v1 k0_1 hg17 (by dsimp only; omega)
      replace k0_2 := by first | exact cell_mark v1 k0_2 hg17 (by dsimp only; omega) | exact cell_mark2 v1 k0_2 hg17 (by dsimp only; omega)
      replace ow := ow.other v1 hg17 (by omega)
      replace v0 := v0.other v1 hg17 (by omega)
      replace og := og.other v1 hg17 (by omega)
      replace v1 := v1.marked (ys := markL Wy.mk_ 6 x1.length (1 + 5 * (x0.length : Int))) (markL_length _ _ _ _) own17 hg17
      have B17 := Bn
      clear Bn hg17 own17
      go_wp2_with fail
      refine (eqS_en1_L _ _ _ _ R R _ (og.sla en1_length) (ow.sla en1_length)).mono ?_
      rintro e w18 ⟨rfl, b18⟩
      have B18 := below_of B17 B17.size b18
      have zz18 := b18.size
      replace k0_0 := cell_on b18 k0_0
      replace k0_1 := cell_on b18 k0_1
      replace k0_2 := cell_on b18 k0_2
      replace ow := ow.step b18
      replace v0 := v0.step b18
      replace v1 := v1.step b18
      replace og := og.step b18
      clear b18
      rw [dec_self]
      go_wp2_with fail
      refine (markS_en1_L _ _ _ R (1) _ og.own (by omega) (by omega) (by omega)).mono ?_
      rintro e w19 ⟨rfl, hg19, own19⟩
      have Bn := og.below B18 hg19
      have zz19 := hg19.size
      replace k0_0 := by first | exact cell_mark og k0_0 hg19 (by dsimp only; omega) | exact cell_mark2 og k0_0 hg19 (by dsimp only; omega)
      replace k0_1 := by first | exact cell_mark og k0_1 hg19 (by dsimp only; omega) | exact cell_mark2 og k0_1 hg19 (by dsimp only; omega)
      replace k0_2 := by first | exact cell_mark og k0_2 hg19 (by dsimp only; omega) | exact cell_mark2 og k0_2 hg19 (by dsimp only; omega)
      replace ow := ow.other og hg19 (by omega)
      replace v0 := v0.other og hg19 (by omega)
      replace v1 := v1.other og hg19 (by omega)
      replace og := og.marked (ys := markL id 1 R.length (1)) (markL_length _ _ _ _) own19 hg19
      have B19 := Bn
      clear Bn hg19 own19
      go_wp2_with fail
      refine (heldS_en1_L _ _ R.length 1 _ (og.sla en1_length) (by omega) (by omega) (by omega)).mono ?_
      rintro e w20 ⟨rfl, rfl⟩
      go_wp2_with fail
      refine (to_Bd_L wi0 hi0 a0 c0 x0 _ (s0.below B19) (by omega)).mono ?_
      rintro e w21 ⟨g21, rfl, b21, own21⟩
      have d_ow_p0 := ow.top
      have d_v0_p0 := v0.top
      have d_v1_p0 := v1.top
      have d_og_p0 := og.top
      have Bp := B19
      have B21 := below_of B19 B19.size b21
      have zz21 := b21.size
      have p0 := Ob.new (b0 := w.heap.size) own21 Bp.size
      clear Bp
      replace k0_0 := cell_on b21 k0_0
      replace k0_1 := cell_on b21 k0_1
      replace k0_2 := cell_on b21 k0_2
      replace ow := ow.step b21
      replace v0 := v0.step b21
      replace v1 := v1.step b21
      replace og := og.step b21
      clear own21 b21
      go_wp2_with fail
      refine (toS_Wy_L a1 c1 x1 _ (s1.below B21) (by omega)).mono ?_
      rintro e w22 ⟨g22, rfl, b22, own22⟩
      have d_ow_p1 := ow.top
      have d_v0_p1 := v0.top
      have d_v1_p1 := v1.top
      have d_og_p1 := og.top
      have d_p0_p1 := p0.top
      have Bp := B21
      have B22 := below_of B21 B21.size b22
      have zz22 := b22.size
      have p1 := Ob.new (b0 := w.heap.size) own22 Bp.size
      clear Bp
      replace k0_0 := cell_on b22 k0_0
      replace k0_1 := cell_on b22 k0_1
      replace k0_2 := cell_on b22 k0_2
      replace ow := ow.step b22
      replace v0 := v0.step b22
      replace v1 := v1.step b22
      replace og := og.step b22
      replace p0 := p0.step b22
      clear own22 b22
      go_wp2_with fail
      refine (HI.out _ _ _ (p0.sla Pc.enc_length) p0.nilcap _ _ (p1.sla Wy.enc_length) p1.nilcap).mono ?_
      rintro e w23 ⟨A23, ca23, rfl, b23, own23⟩
      have d_ow_oh := ow.top
      have d_v0_oh := v0.top
      have d_v1_oh := v1.top
      have d_og_oh := og.top
      have d_p0_oh := p0.top
      have d_p1_oh := p1.top
      have Bp := B22
      have B23 := below_of B22 B22.size b23
      have zz23 := b23.size
      have oh := Ob.new (b0 := w.heap.size) own23 Bp.size
      clear Bp
      replace k0_0 := cell_on b23 k0_0
      replace k0_1 := cell_on b23 k0_1
      replace k0_2 := cell_on b23 k0_2
      replace ow := ow.step b23
      replace v0 := v0.step b23
      replace v1 := v1.step b23
      replace og := og.step b23
      replace p0 := p0.step b23
      replace p1 := p1.step b23
      clear own23 b23
      go_wp2_with fail
      refine (eqS_en1_L _ _ _ _ R R _ (oh.sla en1_length) (ow.sla en1_length)).mono ?_
      rintro e w24 ⟨rfl, b24⟩
      have B24 := below_of B23 B23.size b24
      have zz24 := b24.size
      replace k0_0 := cell_on b24 k0_0
      replace k0_1 := cell_on b24 k0_1
      replace k0_2 := cell_on b24 k0_2
      replace ow := ow.step b24
      replace v0 := v0.step b24
      replace v1 := v1.step b24
      replace og := og.step b24
      replace p0 := p0.step b24
      replace p1 := p1.step b24
      replace oh := oh.step b24
      clear b24
      rw [dec_self]
      go_wp2_with fail
      refine (heldS_en1_L _ _ R.length 1 _ (og.sla en1_length) (by omega) (by omega) (by omega)).mono ?_
      rintro e w25 ⟨rfl, rfl⟩
      go_wp2_with fail
      go_ret
      exact ⟨rfl, B24⟩
    · skip
      simp only [show (1048576 : Int) - (x0.length : Int) - (x1.length : Int) < 0 from by omega, if_true] at z1
      have Z1 := hid z1
      clear z1
      go_enter Try.func5, Try.ntmps5
      go_wp2_with fail
      obtain ⟨wb, hwb⟩ : ∃ wb, wb = w.alloc (Obj.cells #[.int .i8 wi0, .int .i8 hi0, .slice a0 x0.length c0] 25) := ⟨_, rfl⟩
      have B0 : Below w.heap.size w wb := by rw [hwb]; exact (Below.refl _ _).alloc (Nat.le_refl _) _
      have k0_0 : wb.cell? ⟨w.heap.size, 0, none⟩ = some (.int .i8 wi0) := by rw [hwb]; simp
      have k0_1 : wb.cell? ⟨w.heap.size, 1, none⟩ = some (.int .i8 hi0) := by rw [hwb]; simp
      have k0_2 : wb.cell? ⟨w.heap.size, 2, none⟩ = some (.slice a0 x0.length c0) := by rw [hwb]; simp
      have wlt : w.heap.size < wb.heap.size := by rw [hwb]; simp
      rw [← hwb]
      clear hwb
      refine (Z0.out _).mono ?_
      rintro e w1 ⟨rfl, b1⟩
      have B1 := below_of B0 B0.size b1
      have zz1 := b1.size
      replace k0_0 := cell_on b1 k0_0
      replace k0_1 := cell_on b1 k0_1
      replace k0_2 := cell_on b1 k0_2
      clear b1
      go_wp2_with fail
      refine (Z1.out _).mono ?_
      rintro e w2 ⟨rfl, rfl⟩
      go_wp2_with fail
      go_ret
      exact ⟨rfl, B1⟩
  · skip
    simp only [show (1048576 : Int) - (x0.length : Int) < 0 from by omega, if_true] at z0
    have Z0 := hid z0
    clear z0
    go_enter Try.func5, Try.ntmps5
    go_wp2_with fail
    obtain ⟨wb, hwb⟩ : ∃ wb, wb = w.alloc (Obj.cells #[.int .i8 wi0, .int .i8 hi0, .slice a0 x0.length c0] 25) := ⟨_, rfl⟩
    have B0 : Below w.heap.size w wb := by rw [hwb]; exact (Below.refl _ _).alloc (Nat.le_refl _) _
    have k0_0 : wb.cell? ⟨w.heap.size, 0, none⟩ = some (.int .i8 wi0) := by rw [hwb]; simp
    have k0_1 : wb.cell? ⟨w.heap.size, 1, none⟩ = some (.int .i8 hi0) := by rw [hwb]; simp
    have k0_2 : wb.cell? ⟨w.heap.size, 2, none⟩ = some (.slice a0 x0.length c0) := by rw [hwb]; simp
    have wlt : w.heap.size < wb.heap.size := by rw [hwb]; simp
    rw [← hwb]
    clear hwb
    refine (Z0.out _).mono ?_
    rintro e w1 ⟨rfl, b1⟩
    have B1 := below_of B0 B0.size b1
    have zz1 := b1.size
    replace k0_0 := cell_on b1 k0_0
    replace k0_1 := cell_on b1 k0_1
    replace k0_2 := cell_on b1 k0_2
    clear b1
    go_wp2_with fail
    go_ret
    exact ⟨rfl, B1⟩
end Go.Proofs.Ytgkgklgeobbmlaa
