/-
  FnExactWithoutPieces' call: it returns true, whatever the arguments are.
  Conditions: none beyond the statement's own.
-/
import Derived.Test.YtnoiendelcidbaaConvBd
import Derived.Test.YtnoiendelcidbaaConvNu
import Derived.Test.YtnoiendelcidbaaWithPcs
import Derived.Test.YtnoiendelcidbaaOb
import Derived.Deep.RegionHeld3
import Derived.Test.YtnoiendelcidbaaObB
namespace Go.Proofs.Ytnoiendelcidbaa
open Go.RowKit
set_option linter.unusedSimpArgs false
set_option linter.unusedVariables false

set_option maxRecDepth 100000 in
set_option maxHeartbeats 4000000 in
theorem law_FnExactWithoutPieces (w : World) (wi0 hi0 : Int) (wl0 : -128 ≤ wi0) (wu0 : wi0 ≤ 127) (hl0 : -128 ≤ hi0) (hu0 : hi0 ≤ 127) (a0 : Option Addr) (c0 : Nat) (x0 : List Pc) (ok0 : ∀ p ∈ x0, p.Ok) (s0 : SlA Pc.enc 5 w a0 x0) (a1 : Option Addr) (c1 : Nat) (x1 : List Nu) (ok1 : ∀ p ∈ x1, p.Ok) (s1 : SlA Nu.enc 1 w a1 x1) :
    Calls Try.prog 9 #[.agg #[.int .i8 wi0, .int .i8 hi0, .slice a0 x0.length c0], .slice a1 x1.length c1] w fun e w' => e = .returned (.bool true) ∧ Below w.heap.size w w' := by
  obtain ⟨y1, hy1⟩ : ∃ y, y = x1.map Nu.n := ⟨_, rfl⟩
  have t1 := en1_of_nu s1
  rw [← hy1] at t1
  have ly1 : x1.length = y1.length := by rw [hy1, List.length_map]
  have oy1 : ∀ n ∈ y1, -9223372036854775808 ≤ n ∧ n ≤ 9223372036854775807 := by rw [hy1]; intro n hn; obtain ⟨p, hp, rfl⟩ := List.mem_map.1 hn; exact ⟨(ok1 p hp).n0, (ok1 p hp).n1⟩
  rw [ly1]
  clear hy1 ly1 ok1 s1
  have m0 := s0.small
  have m1 := t1.small
  by_cases hn1 : y1.length ≤ 1048576
  · skip
    have z0 := fun W => sz_Bd_L wi0 hi0 a0 x0.length c0 ((1048576 : Int)) W (by omega) (by omega) m0
    by_cases h0 : x0.length ≤ 1048576
    · skip
      simp only [show ¬ ((1048576 : Int) - (x0.length : Int) < 0) from by omega, if_false] at z0
      have l0 : (0 : Int) ≤ (1048576 : Int) - (x0.length : Int) := by omega
      have Z0 := hid z0
      clear z0
      have HS := fun (W : World) (A0 : Option Addr) (C0 : Nat) (h0 : SlA Pc.enc 5 W A0 x0) (q0 : A0 = none → C0 = 0) (A1 : Option Addr) (C1 : Nat) (h1 : SlA en1 1 W A1 y1) (q1 : A1 = none → C1 = 0) => WithoutPieces_S W wi0 hi0 wl0 wu0 hl0 hu0 A0 C0 x0 h0 q0 ok0 (by omega) A1 C1 y1 h1 q1 oy1 (by omega)
      have HI := fun (W : World) (A0 : Option Addr) (C0 : Nat) (h0 : SlA Pc.enc 5 W A0 x0) (q0 : A0 = none → C0 = 0) (A1 : Option Addr) (C1 : Nat) (h1 : SlA en1 1 W A1 y1) (q1 : A1 = none → C1 = 0) => WithoutPieces_I W wi0 hi0 wl0 wu0 hl0 hu0 A0 C0 x0 h0 q0 ok0 (by omega) A1 C1 y1 h1 q1 oy1 (by omega)
      have hRl := WithoutPieces_len wi0 hi0 x0 y1 (by omega) (by omega)
      obtain ⟨R, e_R⟩ : ∃ v, (WithoutPiecesG wi0 hi0 x0 y1).1.2.2 = v := ⟨_, rfl⟩
      obtain ⟨wR, e_wR⟩ : ∃ v, (WithoutPiecesG wi0 hi0 x0 y1).1.1 = v := ⟨_, rfl⟩
      obtain ⟨hR, e_hR⟩ : ∃ v, (WithoutPiecesG wi0 hi0 x0 y1).1.2.1 = v := ⟨_, rfl⟩
      obtain ⟨cd, e_cd⟩ : ∃ v, (WithoutPiecesG wi0 hi0 x0 y1).2 = v := ⟨_, rfl⟩
      rw [e_R] at hRl
      simp only [e_R, e_wR, e_hR, e_cd] at HS HI
      replace HS := hid HS
      replace HI := hid HI
      clear e_R e_wR e_hR e_cd
      have cdd : (cd != cd) = false := by simp
      go_enter Try.func9, Try.ntmps9
      go_wp2_with fail
      obtain ⟨wb, hwb⟩ : ∃ wb, wb = w.alloc (Obj.cells #[.int .i8 wi0, .int .i8 hi0, .slice a0 x0.length c0] 58) := ⟨_, rfl⟩
      have B0 : Below w.heap.size w wb := by rw [hwb]; exact (Below.refl _ _).alloc (Nat.le_refl _) _
      have k0_0 : wb.cell? ⟨w.heap.size, 0, none⟩ = some (.int .i8 wi0) := by rw [hwb]; simp
      have k0_1 : wb.cell? ⟨w.heap.size, 1, none⟩ = some (.int .i8 hi0) := by rw [hwb]; simp
      have k0_2 : wb.cell? ⟨w.heap.size, 2, none⟩ = some (.slice a0 x0.length c0) := by rw [hwb]; simp
      have wlt : w.heap.size < wb.heap.size := by rw [hwb]; simp
      rw [← hwb]
      clear hwb
      have wsz := B0.size
      refine (Z0.out _).mono ?_
      rintro e w1 ⟨rfl, b1⟩
      have B1 := below_of B0 B0.size b1
      have zz1 := b1.size
      replace k0_0 := cell_on b1 k0_0
      replace k0_1 := cell_on b1 k0_1
      replace k0_2 := cell_on b1 k0_2
      clear b1
      go_wp2_with fail
      refine (to_Bd_L wi0 hi0 a0 c0 x0 _ (s0.below B1) (by omega)).mono ?_
      rintro e w2 ⟨g2, rfl, b2, own2⟩
      have Bp := B1
      have B2 := below_of B1 B1.size b2
      have zz2 := b2.size
      have p0 := Ob.new (b0 := w.heap.size) own2 Bp.size
      clear Bp
      replace k0_0 := cell_on b2 k0_0
      replace k0_1 := cell_on b2 k0_1
      replace k0_2 := cell_on b2 k0_2
      clear own2 b2
      go_wp2_with fail
      refine (toS_en1_L a1 c1 y1 _ (t1.below B2) (by omega)).mono ?_
      rintro e w3 ⟨g3, rfl, b3, own3⟩
      have d_p0_p1 := p0.top
      have Bp := B2
      have B3 := below_of B2 B2.size b3
      have zz3 := b3.size
      have p1 := Ob.new (b0 := w.heap.size) own3 Bp.size
      clear Bp
      replace k0_0 := cell_on b3 k0_0
      replace k0_1 := cell_on b3 k0_1
      replace k0_2 := cell_on b3 k0_2
      replace p0 := p0.step b3
      clear own3 b3
      go_wp2_with fail
      refine (HS.out _ _ _ (p0.sla Pc.enc_length) p0.nilcap _ _ (p1.sla en1_length) p1.nilcap).mono ?_
      rintro e w4 ⟨A4, ca4, rfl, b4, own4⟩
      have d_p0_ow := p0.top
      have d_p1_ow := p1.top
      have Bp := B3
      have B4 := below_of B3 B3.size b4
      have zz4 := b4.size
      have ow := Ob.new (b0 := w.heap.size) own4 Bp.size
      clear Bp
      replace k0_0 := cell_on b4 k0_0
      replace k0_1 := cell_on b4 k0_1
      replace k0_2 := cell_on b4 k0_2
      replace p0 := p0.step b4
      replace p1 := p1.step b4
      clear own4 b4
      have a_k0_0 := fun o => cell_on ((Below.refl w4.heap.size w4).alloc (Nat.le_refl _) o) k0_0
      have a_k0_1 := fun o => cell_on ((Below.refl w4.heap.size w4).alloc (Nat.le_refl _) o) k0_1
      have a_k0_2 := fun o => cell_on ((Below.refl w4.heap.size w4).alloc (Nat.le_refl _) o) k0_2
      go_wp2_with fail
      clear a_k0_0 a_k0_1 a_k0_2
      obtain ⟨w5, hw5⟩ : ∃ W, W = w4.alloc (Obj.cells #[.int .i8 wR, .int .i8 hR, .slice A4 R.length ca4] 63) := ⟨_, rfl⟩
      have b5 : Below w4.heap.size w4 w5 := by rw [hw5]; exact (Below.refl _ _).alloc (Nat.le_refl _) _
      have wl5 : w4.heap.size < w5.heap.size := by rw [hw5]; simp
      have kow_0 : w5.cell? ⟨w4.heap.size, 0, none⟩ = some (.int .i8 wR) := by rw [hw5]; simp
      have kow_1 : w5.cell? ⟨w4.heap.size, 1, none⟩ = some (.int .i8 hR) := by rw [hw5]; simp
      have kow_2 : w5.cell? ⟨w4.heap.size, 2, none⟩ = some (.slice A4 R.length ca4) := by rw [hw5]; simp
      rw [← hw5]
      clear hw5
      have B5 := below_of B4 B4.size b5
      have zz5 := b5.size
      replace k0_0 := cell_on b5 k0_0
      replace k0_1 := cell_on b5 k0_1
      replace k0_2 := cell_on b5 k0_2
      replace p0 := p0.step b5
      replace p1 := p1.step b5
      replace ow := ow.step b5
      clear b5
      clear p0 p1
      refine (to_Bd_L wi0 hi0 a0 c0 x0 _ (s0.below B5) (by omega)).mono ?_
      rintro e w6 ⟨g6, rfl, b6, own6⟩
      have d_ow_v0 := ow.top
      have Bp := B5
      have B6 := below_of B5 B5.size b6
      have zz6 := b6.size
      have v0 := Ob.new (b0 := w.heap.size) own6 Bp.size
      clear Bp
      replace k0_0 := cell_on b6 k0_0
      replace k0_1 := cell_on b6 k0_1
      replace k0_2 := cell_on b6 k0_2
      replace kow_0 := cell_on b6 kow_0
      replace kow_1 := cell_on b6 kow_1
      replace kow_2 := cell_on b6 kow_2
      replace ow := ow.step b6
      clear own6 b6
      have a_k0_0 := fun o => cell_on ((Below.refl w6.heap.size w6).alloc (Nat.le_refl _) o) k0_0
      have a_k0_1 := fun o => cell_on ((Below.refl w6.heap.size w6).alloc (Nat.le_refl _) o) k0_1
      have a_k0_2 := fun o => cell_on ((Below.refl w6.heap.size w6).alloc (Nat.le_refl _) o) k0_2
      have a_kow_0 := fun o => cell_on ((Below.refl w6.heap.size w6).alloc (Nat.le_refl _) o) kow_0
      have a_kow_1 := fun o => cell_on ((Below.refl w6.heap.size w6).alloc (Nat.le_refl _) o) kow_1
      have a_kow_2 := fun o => cell_on ((Below.refl w6.heap.size w6).alloc (Nat.le_refl _) o) kow_2
      go_wp2_with fail
      clear a_k0_0 a_k0_1 a_k0_2 a_kow_0 a_kow_1 a_kow_2
      obtain ⟨w7, hw7⟩ : ∃ W, W = w6.alloc (Obj.cells #[.int .i8 wi0, .int .i8 hi0, .slice (some ⟨g6, 0, none⟩) x0.length x0.length] 63) := ⟨_, rfl⟩
      have b7 : Below w6.heap.size w6 w7 := by rw [hw7]; exact (Below.refl _ _).alloc (Nat.le_refl _) _
      have kx0_0 : w7.cell? ⟨w6.heap.size, 0, none⟩ = some (.int .i8 wi0) := by rw [hw7]; simp
      have kx0_1 : w7.cell? ⟨w6.heap.size, 1, none⟩ = some (.int .i8 hi0) := by rw [hw7]; simp
      have kx0_2 : w7.cell? ⟨w6.heap.size, 2, none⟩ = some (.slice (some ⟨g6, 0, none⟩) x0.length x0.length) := by rw [hw7]; simp
      have wl7 : w6.heap.size < w7.heap.size := by rw [hw7]; simp
      rw [← hw7]
      clear hw7
      have B7 := below_of B6 B6.size b7
      have zz7 := b7.size
      replace k0_0 := cell_on b7 k0_0
      replace k0_1 := cell_on b7 k0_1
      replace k0_2 := cell_on b7 k0_2
      replace kow_0 := cell_on b7 kow_0
      replace kow_1 := cell_on b7 kow_1
      replace kow_2 := cell_on b7 kow_2
      replace ow := ow.step b7
      replace v0 := v0.step b7
      clear b7
      refine (toS_en1_L a1 c1 y1 _ (t1.below B7) (by omega)).mono ?_
      rintro e w8 ⟨g8, rfl, b8, own8⟩
      have d_ow_v1 := ow.top
      have d_v0_v1 := v0.top
      have Bp := B7
      have B8 := below_of B7 B7.size b8
      have zz8 := b8.size
      have v1 := Ob.new (b0 := w.heap.size) own8 Bp.size
      clear Bp
      replace k0_0 := cell_on b8 k0_0
      replace k0_1 := cell_on b8 k0_1
      replace k0_2 := cell_on b8 k0_2
      replace kow_0 := cell_on b8 kow_0
      replace kow_1 := cell_on b8 kow_1
      replace kow_2 := cell_on b8 kow_2
      replace kx0_0 := cell_on b8 kx0_0
      replace kx0_1 := cell_on b8 kx0_1
      replace kx0_2 := cell_on b8 kx0_2
      replace ow := ow.step b8
      replace v0 := v0.step b8
      clear own8 b8
      go_wp2_with fail
      refine (HI.out _ _ _ (v0.sla Pc.enc_length) v0.nilcap _ _ (v1.sla en1_length) v1.nilcap).mono ?_
      rintro e w9 ⟨A9, ca9, rfl, b9, own9⟩
      have d_ow_og := ow.top
      have d_v0_og := v0.top
      have d_v1_og := v1.top
      have Bp := B8
      have B9 := below_of B8 B8.size b9
      have zz9 := b9.size
      have og := Ob.new (b0 := w.heap.size) own9 Bp.size
      clear Bp
      replace k0_0 := cell_on b9 k0_0
      replace k0_1 := cell_on b9 k0_1
      replace k0_2 := cell_on b9 k0_2
      replace kow_0 := cell_on b9 kow_0
      replace kow_1 := cell_on b9 kow_1
      replace kow_2 := cell_on b9 kow_2
      replace kx0_0 := cell_on b9 kx0_0
      replace kx0_1 := cell_on b9 kx0_1
      replace kx0_2 := cell_on b9 kx0_2
      replace ow := ow.step b9
      replace v0 := v0.step b9
      replace v1 := v1.step b9
      clear own9 b9
      have a_k0_0 := fun o => cell_on ((Below.refl w9.heap.size w9).alloc (Nat.le_refl _) o) k0_0
      have a_k0_1 := fun o => cell_on ((Below.refl w9.heap.size w9).alloc (Nat.le_refl _) o) k0_1
      have a_k0_2 := fun o => cell_on ((Below.refl w9.heap.size w9).alloc (Nat.le_refl _) o) k0_2
      have a_kow_0 := fun o => cell_on ((Below.refl w9.heap.size w9).alloc (Nat.le_refl _) o) kow_0
      have a_kow_1 := fun o => cell_on ((Below.refl w9.heap.size w9).alloc (Nat.le_refl _) o) kow_1
      have a_kow_2 := fun o => cell_on ((Below.refl w9.heap.size w9).alloc (Nat.le_refl _) o) kow_2
      have a_kx0_0 := fun o => cell_on ((Below.refl w9.heap.size w9).alloc (Nat.le_refl _) o) kx0_0
      have a_kx0_1 := fun o => cell_on ((Below.refl w9.heap.size w9).alloc (Nat.le_refl _) o) kx0_1
      have a_kx0_2 := fun o => cell_on ((Below.refl w9.heap.size w9).alloc (Nat.le_refl _) o) kx0_2
      go_wp2_with fail
      clear a_k0_0 a_k0_1 a_k0_2 a_kow_0 a_kow_1 a_kow_2 a_kx0_0 a_kx0_1 a_kx0_2
      obtain ⟨w10, hw10⟩ : ∃ W, W = w9.alloc (Obj.cells #[.int .i8 wR, .int .i8 hR, .slice A9 R.length ca9] 63) := ⟨_, rfl⟩
      have b10 : Below w9.heap.size w9 w10 := by rw [hw10]; exact (Below.refl _ _).alloc (Nat.le_refl _) _
      have wl10 : w9.heap.size < w10.heap.size := by rw [hw10]; simp
      have kog_0 : w10.cell? ⟨w9.heap.size, 0, none⟩ = some (.int .i8 wR) := by rw [hw10]; simp
      have kog_1 : w10.cell? ⟨w9.heap.size, 1, none⟩ = some (.int .i8 hR) := by rw [hw10]; simp
      have kog_2 : w10.cell? ⟨w9.heap.size, 2, none⟩ = some (.slice A9 R.length ca9) := by rw [hw10]; simp
      rw [← hw10]
      clear hw10
      have B10 := below_of B9 B9.size b10
      have zz10 := b10.size
      replace k0_0 := cell_on b10 k0_0
      replace k0_1 := cell_on b10 k0_1
      replace k0_2 := cell_on b10 k0_2
      replace kow_0 := cell_on b10 kow_0
      replace kow_1 := cell_on b10 kow_1
      replace kow_2 := cell_on b10 kow_2
      replace kx0_0 := cell_on b10 kx0_0
      replace kx0_1 := cell_on b10 kx0_1
      replace kx0_2 := cell_on b10 kx0_2
      replace ow := ow.step b10
      replace v0 := v0.step b10
      replace v1 := v1.step b10
      replace og := og.step b10
      clear b10
      refine (eq_Bd_L wR hR wR hR _ _ _ _ R R _ (og.sla Pc.enc_length) (ow.sla Pc.enc_length)).mono ?_
      rintro e w11 ⟨rfl, b11⟩
      have B11 := below_of B10 B10.size b11
      have zz11 := b11.size
      replace k0_0 := cell_on b11 k0_0
      replace k0_1 := cell_on b11 k0_1
      replace k0_2 := cell_on b11 k0_2
      replace kow_0 := cell_on b11 kow_0
      replace kow_1 := cell_on b11 kow_1
      replace kow_2 := cell_on b11 kow_2
      replace kx0_0 := cell_on b11 kx0_0
      replace kx0_1 := cell_on b11 kx0_1
      replace kx0_2 := cell_on b11 kx0_2
      replace kog_0 := cell_on b11 kog_0
      replace kog_1 := cell_on b11 kog_1
      replace kog_2 := cell_on b11 kog_2
      replace ow := ow.step b11
      replace v0 := v0.step b11
      replace v1 := v1.step b11
      replace og := og.step b11
      clear b11
      rw [decide_eq_true (show wR = wR ∧ hR = hR ∧ R = R from ⟨rfl, rfl, rfl⟩)]
      go_wp2_with fail
      have b12 : Below w11.heap.size w11 w11.drew := (Below.refl _ _).drew
      have B12 := below_of B11 B11.size b12
      have zz12 := b12.size
      replace k0_0 := cell_on b12 k0_0
      replace k0_1 := cell_on b12 k0_1
      replace k0_2 := cell_on b12 k0_2
      replace kow_0 := cell_on b12 kow_0
      replace kow_1 := cell_on b12 kow_1
      replace kow_2 := cell_on b12 kow_2
      replace kx0_0 := cell_on b12 kx0_0
      replace kx0_1 := cell_on b12 kx0_1
      replace kx0_2 := cell_on b12 kx0_2
      replace kog_0 := cell_on b12 kog_0
      replace kog_1 := cell_on b12 kog_1
      replace kog_2 := cell_on b12 kog_2
      replace ow := ow.step b12
      replace v0 := v0.step b12
      replace v1 := v1.step b12
      replace og := og.step b12
      clear b12
      go_region_held3 (fun w' => w'.cell? ⟨w6.heap.size, 0, none⟩ = some (.int .i8 wi0) ∧ w'.cell? ⟨w6.heap.size, 1, none⟩ = some (.int .i8 hi0) ∧ w'.cell? ⟨w6.heap.size, 2, none⟩ = some (.slice (some ⟨g6, 0, none⟩) x0.length x0.length) ∧ w'.cell? ⟨w.heap.size, 0, none⟩ = some (.int .i8 wi0) ∧ w'.cell? ⟨w.heap.size, 1, none⟩ = some (.int .i8 hi0) ∧ w'.cell? ⟨w.heap.size, 2, none⟩ = some (.slice a0 x0.length c0)) ((refine ⟨?_, ?_, ?_, ?_, ?_, ?_⟩ <;> assumption)) (first | (go_at_call 35; refine (to_Bd_L wi0 hi0 a0 c0 x0 _ (s0.below B12) (by omega)).mono ?_; rintro e w13 ⟨g13, rfl, b13, own13⟩; have d_ow_u0 := ow.top; have d_v0_u0 := v0.top; have d_v1_u0 := v1.top; have d_og_u0 := og.top; have Bp := B12; have B13 := below_of B12 B12.size b13; have zz13 := b13.size; have u0 := Ob.new (b0 := w.heap.size) own13 Bp.size; clear Bp; replace k0_0 := cell_on b13 k0_0; replace k0_1 := cell_on b13 k0_1; replace k0_2 := cell_on b13 k0_2; replace kow_0 := cell_on b13 kow_0; replace kow_1 := cell_on b13 kow_1; replace kow_2 := cell_on b13 kow_2; replace kx0_0 := cell_on b13 kx0_0; replace kx0_1 := cell_on b13 kx0_1; replace kx0_2 := cell_on b13 kx0_2; replace kog_0 := cell_on b13 kog_0; replace kog_1 := cell_on b13 kog_1; replace kog_2 := cell_on b13 kog_2; replace ow := ow.step b13; replace v0 := v0.step b13; replace v1 := v1.step b13; replace og := og.step b13; clear own13 b13) | (go_at_call 37; refine (eq_Bd_L wi0 hi0 wi0 hi0 _ _ _ _ x0 x0 _ (v0.sla Pc.enc_length) (u0.sla Pc.enc_length)).mono ?_; rintro e w14 ⟨rfl, b14⟩; have B14 := below_of B13 B13.size b14; have zz14 := b14.size; replace k0_0 := cell_on b14 k0_0; replace k0_1 := cell_on b14 k0_1; replace k0_2 := cell_on b14 k0_2; replace kow_0 := cell_on b14 kow_0; replace kow_1 := cell_on b14 kow_1; replace kow_2 := cell_on b14 kow_2; replace kx0_0 := cell_on b14 kx0_0; replace kx0_1 := cell_on b14 kx0_1; replace kx0_2 := cell_on b14 kx0_2; replace kog_0 := cell_on b14 kog_0; replace kog_1 := cell_on b14 kog_1; replace kog_2 := cell_on b14 kog_2; replace ow := ow.step b14; replace v0 := v0.step b14; replace v1 := v1.step b14; replace og := og.step b14; replace u0 := u0.step b14; clear b14; rw [decide_eq_true (show wi0 = wi0 ∧ hi0 = hi0 ∧ x0 = x0 from ⟨rfl, rfl, rfl⟩)]))
      go_wp2_with fail
      clear u0
      refine (toS_en1_L a1 c1 y1 _ (t1.below B14) (by omega)).mono ?_
      rintro e w15 ⟨g15, rfl, b15, own15⟩
      have d_ow_u1 := ow.top
      have d_v0_u1 := v0.top
      have d_v1_u1 := v1.top
      have d_og_u1 := og.top
      have Bp := B14
      have B15 := below_of B14 B14.size b15
      have zz15 := b15.size
      have u1 := Ob.new (b0 := w.heap.size) own15 Bp.size
      clear Bp
      replace k0_0 := cell_on b15 k0_0
      replace k0_1 := cell_on b15 k0_1
      replace k0_2 := cell_on b15 k0_2
      replace kow_0 := cell_on b15 kow_0
      replace kow_1 := cell_on b15 kow_1
      replace kow_2 := cell_on b15 kow_2
      replace kx0_0 := cell_on b15 kx0_0
      replace kx0_1 := cell_on b15 kx0_1
      replace kx0_2 := cell_on b15 kx0_2
      replace kog_0 := cell_on b15 kog_0
      replace kog_1 := cell_on b15 kog_1
      replace kog_2 := cell_on b15 kog_2
      replace ow := ow.step b15
      replace v0 := v0.step b15
      replace v1 := v1.step b15
      replace og := og.step b15
      clear own15 b15
      go_wp2_with fail
      refine (eqS_en1_L _ _ _ _ y1 y1 _ (v1.sla en1_length) (u1.sla en1_length)).mono ?_
      rintro e w16 ⟨rfl, b16⟩
      have B16 := below_of B15 B15.size b16
      have zz16 := b16.size
      replace k0_0 := cell_on b16 k0_0
      replace k0_1 := cell_on b16 k0_1
      replace k0_2 := cell_on b16 k0_2
      replace kow_0 := cell_on b16 kow_0
      replace kow_1 := cell_on b16 kow_1
      replace kow_2 := cell_on b16 kow_2
      replace kx0_0 := cell_on b16 kx0_0
      replace kx0_1 := cell_on b16 kx0_1
      replace kx0_2 := cell_on b16 kx0_2
      replace kog_0 := cell_on b16 kog_0
      replace kog_1 := cell_on b16 kog_1
      replace kog_2 := cell_on b16 kog_2
      replace ow := ow.step b16
      replace v0 := v0.step b16
      replace v1 := v1.step b16
      replace og := og.step b16
      replace u1 := u1.step b16
      clear b16
      rw [dec_self]
      go_wp2_with fail
      clear u1
      clear kx0_0
      clear kx0_1
      clear kx0_2
      refine (markS_Bd_L _ wi0 hi0 _ _ x0 (1) _ v0.own (by omega) (by omega) (by omega)).mono ?_
      rintro e w17 ⟨rfl, hg17, own17⟩
      have Bn := v0.below B16 hg17
      have zz17 := hg17.size
      replace k0_0 := by first | exact cell_mark v0 k0_0 hg17 (by dsimp only; omega) | exact cell_mark2 v0 k0_0 hg17 (by dsimp only; omega)
      replace k0_1 := by first | exact cell_mark v0 k0_1 hg17 (by dsimp only; omega) | exact cell_mark2 v0 k0_1 hg17 (by dsimp only; omega)
      replace k0_2 := by first | exact cell_mark v0 k0_2 hg17 (by dsimp only; omega) | exact cell_mark2 v0 k0_2 hg17 (by dsimp only; omega)
      replace kow_0 := by first | exact cell_mark v0 kow_0 hg17 (by dsimp only; omega) | exact cell_mark2 v0 kow_0 hg17 (by dsimp only; omega)
      replace kow_1 := by first | exact cell_mark v0 kow_1 hg17 (by dsimp only; omega) | exact cell_mark2 v0 kow_1 hg17 (by dsimp only; omega)
      replace kow_2 := by first | exact cell_mark v0 kow_2 hg17 (by dsimp only; omega) | exact cell_mark2 v0 kow_2 hg17 (by dsimp only; omega)
      replace kog_0 := by first | exact cell_mark v0 kog_0 hg17 (by dsimp only; omega) | exact cell_mark2 v0 kog_0 hg17 (by dsimp only; omega)
      replace kog_1 := by first | exact cell_mark v0 kog_1 hg17 (by dsimp only; omega) | exact cell_mark2 v0 kog_1 hg17 (by dsimp only; omega)
      replace kog_2 := by first | exact cell_mark v0 kog_2 hg17 (by dsimp only; omega) | exact cell_mark2 v0 kog_2 hg17 (by dsimp only; omega)
      replace ow := ow.other v0 hg17 (by omega)
      replace v1 := v1.other v0 hg17 (by omega)
      replace og := og.other v0 hg17 (by omega)
      replace v0 := v0.marked (ys := markL Pc.mk_ 5 x0.length (1)) (markL_length _ _ _ _) own17 hg17
      have B17 := Bn
      clear Bn hg17 own17
      go_wp2_with fail
      refine (markS_en1_L _ _ _ y1 (1 + 5 * (x0.length : Int)) _ v1.own (by omega) (by omega) (by omega)).mono ?_
      rintro e w18 ⟨rfl, hg18, own18⟩
      have Bn := v1.below B17 hg18
      have zz18 := hg18.size
      replace k0_0 := by first | exact cell_mark v1 k0_0 hg18 (by dsimp only; omega) | exact cell_mark2 v1 k0_0 hg18 (by dsimp only; omega)
      replace k0_1 := by first | exact cell_mark v1 k0_1 hg18 (by dsimp only; omega) | exact cell_mark2 v1 k0_1 hg18 (by dsimp only; omega)
      replace k0_2 := by first | exact cell_mark v1 k0_2 hg18 (by dsimp only; omega) | exact cell_mark2 v1 k0_2 hg18 (by dsimp only; omega)
      replace kow_0 := by first | exact cell_mark v1 kow_0 hg18 (by dsimp only; omega) | exact cell_mark2 v1 kow_0 hg18 (by dsimp only; omega)
      replace kow_1 := by first | exact cell_mark v1 kow_1 hg18 (by dsimp only; omega) | exact cell_mark2 v1 kow_1 hg18 (by dsimp only; omega)
      replace kow_2 := by first | exact cell_mark v1 kow_2 hg18 (by dsimp only; omega) | exact cell_mark2 v1 kow_2 hg18 (by dsimp only; omega)
      replace kog_0 := by first | exact cell_mark v1 kog_0 hg18 (by dsimp only; omega) | exact cell_mark2 v1 kog_0 hg18 (by dsimp only; omega)
      replace kog_1 := by first | exact cell_mark v1 kog_1 hg18 (by dsimp only; omega) | exact cell_mark2 v1 kog_1 hg18 (by dsimp only; omega)
      replace kog_2 := by first | exact cell_mark v1 kog_2 hg18 (by dsimp only; omega) | exact cell_mark2 v1 kog_2 hg18 (by dsimp only; omega)
      replace ow := ow.other v1 hg18 (by omega)
      replace v0 := v0.other v1 hg18 (by omega)
      replace og := og.other v1 hg18 (by omega)
      replace v1 := v1.marked (ys := markL id 1 y1.length (1 + 5 * (x0.length : Int))) (markL_length _ _ _ _) own18 hg18
      have B18 := Bn
      clear Bn hg18 own18
      go_wp2_with fail
      refine (eq_Bd_L wR hR wR hR _ _ _ _ R R _ (og.sla Pc.enc_length) (ow.sla Pc.enc_length)).mono ?_
      rintro e w19 ⟨rfl, b19⟩
      have B19 := below_of B18 B18.size b19
      have zz19 := b19.size
      replace k0_0 := cell_on b19 k0_0
      replace k0_1 := cell_on b19 k0_1
      replace k0_2 := cell_on b19 k0_2
      replace kow_0 := cell_on b19 kow_0
      replace kow_1 := cell_on b19 kow_1
      replace kow_2 := cell_on b19 kow_2
      replace kog_0 := cell_on b19 kog_0
      replace kog_1 := cell_on b19 kog_1
      replace kog_2 := cell_on b19 kog_2
      replace ow := ow.step b19
      replace v0 := v0.step b19
      replace v1 := v1.step b19
      replace og := og.step b19
      clear b19
      rw [decide_eq_true (show wR = wR ∧ hR = hR ∧ R = R from ⟨rfl, rfl, rfl⟩)]
      go_wp2_with fail
      refine (markS_Bd_L _ wR hR _ _ R (1) _ og.own (by omega) (by omega) (by omega)).mono ?_
      rintro e w20 ⟨rfl, hg20, own20⟩
      have Bn := og.below B19 hg20
      have zz20 := hg20.size
      replace k0_0 := by first | exact cell_mark og k0_0 hg20 (by dsimp only; omega) | exact cell_mark2 og k0_0 hg20 (by dsimp only; omega)
      replace k0_1 := by first | exact cell_mark og k0_1 hg20 (by dsimp only; omega) | exact cell_mark2 og k0_1 hg20 (by dsimp only; omega)
      replace k0_2 := by first | exact cell_mark og k0_2 hg20 (by dsimp only; omega) | exact cell_mark2 og k0_2 hg20 (by dsimp only; omega)
      replace kow_0 := by first | exact cell_mark og kow_0 hg20 (by dsimp only; omega) | exact cell_mark2 og kow_0 hg20 (by dsimp only; omega)
      replace kow_1 := by first | exact cell_mark og kow_1 hg20 (by dsimp only; omega) | exact cell_mark2 og kow_1 hg20 (by dsimp only; omega)
      replace kow_2 := by first | exact cell_mark og kow_2 hg20 (by dsimp only; omega) | exact cell_mark2 og kow_2 hg20 (by dsimp only; omega)
      replace kog_0 := by first | exact cell_mark og kog_0 hg20 (by dsimp only; omega) | exact cell_mark2 og kog_0 hg20 (by dsimp only; omega)
      replace kog_1 := by first | exact cell_mark og kog_1 hg20 (by dsimp only; omega) | exact cell_mark2 og kog_1 hg20 (by dsimp only; omega)
      replace kog_2 := by first | exact cell_mark og kog_2 hg20 (by dsimp only; omega) | exact cell_mark2 og kog_2 hg20 (by dsimp only; omega)
      replace ow := ow.other og hg20 (by omega)
      replace v0 := v0.other og hg20 (by omega)
      replace v1 := v1.other og hg20 (by omega)
      replace og := og.marked (ys := markL Pc.mk_ 5 R.length (1)) (markL_length _ _ _ _) own20 hg20
      have B20 := Bn
      clear Bn hg20 own20
      go_wp2_with fail
      refine (heldS_Bd_L wR hR _ _ R.length 1 _ (og.sla Pc.enc_length) (by omega) (by omega) (by omega)).mono ?_
      rintro e w21 ⟨rfl, b21⟩
      have B21 := below_of B20 B20.size b21
      have zz21 := b21.size
      replace k0_0 := cell_on b21 k0_0
      replace k0_1 := cell_on b21 k0_1
      replace k0_2 := cell_on b21 k0_2
      replace kow_0 := cell_on b21 kow_0
      replace kow_1 := cell_on b21 kow_1
      replace kow_2 := cell_on b21 kow_2
      replace kog_0 := cell_on b21 kog_0
      replace kog_1 := cell_on b21 kog_1
      replace kog_2 := cell_on b21 kog_2
      replace ow := ow.step b21
      replace v0 := v0.step b21
      replace v1 := v1.step b21
      replace og := og.step b21
      clear b21
      go_wp2_with fail
      refine (to_Bd_L wi0 hi0 a0 c0 x0 _ (s0.below B21) (by omega)).mono ?_
      rintro e w22 ⟨g22, rfl, b22, own22⟩
      have d_ow_p0 := ow.top
      have d_v0_p0 := v0.top
      have d_v1_p0 := v1.top
      have d_og_p0 := og.top
      have Bp := B21
      have B22 := below_of B21 B21.size b22
      have zz22 := b22.size
      have p0 := Ob.new (b0 := w.heap.size) own22 Bp.size
      clear Bp
      replace k0_0 := cell_on b22 k0_0
      replace k0_1 := cell_on b22 k0_1
      replace k0_2 := cell_on b22 k0_2
      replace kow_0 := cell_on b22 kow_0
      replace kow_1 := cell_on b22 kow_1
      replace kow_2 := cell_on b22 kow_2
      replace kog_0 := cell_on b22 kog_0
      replace kog_1 := cell_on b22 kog_1
      replace kog_2 := cell_on b22 kog_2
      replace ow := ow.step b22
      replace v0 := v0.step b22
      replace v1 := v1.step b22
      replace og := og.step b22
      clear own22 b22
      go_wp2_with fail
      refine (toS_en1_L a1 c1 y1 _ (t1.below B22) (by omega)).mono ?_
      rintro e w23 ⟨g23, rfl, b23, own23⟩
      have d_ow_p1 := ow.top
      have d_v0_p1 := v0.top
      have d_v1_p1 := v1.top
      have d_og_p1 := og.top
      have d_p0_p1 := p0.top
      have Bp := B22
      have B23 := below_of B22 B22.size b23
      have zz23 := b23.size
      have p1 := Ob.new (b0 := w.heap.size) own23 Bp.size
      clear Bp
      replace k0_0 := cell_on b23 k0_0
      replace k0_1 := cell_on b23 k0_1
      replace k0_2 := cell_on b23 k0_2
      replace kow_0 := cell_on b23 kow_0
      replace kow_1 := cell_on b23 kow_1
      replace kow_2 := cell_on b23 kow_2
      replace kog_0 := cell_on b23 kog_0
      replace kog_1 := cell_on b23 kog_1
      replace kog_2 := cell_on b23 kog_2
      replace ow := ow.step b23
      replace v0 := v0.step b23
      replace v1 := v1.step b23
      replace og := og.step b23
      replace p0 := p0.step b23
      clear own23 b23
      go_wp2_with fail
      refine (HI.out _ _ _ (p0.sla Pc.enc_length) p0.nilcap _ _ (p1.sla en1_length) p1.nilcap).mono ?_
      rintro e w24 ⟨A24, ca24, rfl, b24, own24⟩
      have d_ow_oh := ow.top
      have d_v0_oh := v0.top
      have d_v1_oh := v1.top
      have d_og_oh := og.top
      have d_p0_oh := p0.top
      have d_p1_oh := p1.top
      have Bp := B23
      have B24 := below_of B23 B23.size b24
      have zz24 := b24.size
      have oh := Ob.new (b0 := w.heap.size) own24 Bp.size
      clear Bp
      replace k0_0 := cell_on b24 k0_0
      replace k0_1 := cell_on b24 k0_1
      replace k0_2 := cell_on b24 k0_2
      replace kow_0 := cell_on b24 kow_0
      replace kow_1 := cell_on b24 kow_1
      replace kow_2 := cell_on b24 kow_2
      replace kog_0 := cell_on b24 kog_0
      replace kog_1 := cell_on b24 kog_1
      replace kog_2 := cell_on b24 kog_2
      replace ow := ow.step b24
      replace v0 := v0.step b24
      replace v1 := v1.step b24
      replace og := og.step b24
      replace p0 := p0.step b24
      replace p1 := p1.step b24
      clear own24 b24
      have a_k0_0 := fun o => cell_on ((Below.refl w24.heap.size w24).alloc (Nat.le_refl _) o) k0_0
      have a_k0_1 := fun o => cell_on ((Below.refl w24.heap.size w24).alloc (Nat.le_refl _) o) k0_1
      have a_k0_2 := fun o => cell_on ((Below.refl w24.heap.size w24).alloc (Nat.le_refl _) o) k0_2
      have a_kow_0 := fun o => cell_on ((Below.refl w24.heap.size w24).alloc (Nat.le_refl _) o) kow_0
      have a_kow_1 := fun o => cell_on ((Below.refl w24.heap.size w24).alloc (Nat.le_refl _) o) kow_1
      have a_kow_2 := fun o => cell_on ((Below.refl w24.heap.size w24).alloc (Nat.le_refl _) o) kow_2
      have a_kog_0 := fun o => cell_on ((Below.refl w24.heap.size w24).alloc (Nat.le_refl _) o) kog_0
      have a_kog_1 := fun o => cell_on ((Below.refl w24.heap.size w24).alloc (Nat.le_refl _) o) kog_1
      have a_kog_2 := fun o => cell_on ((Below.refl w24.heap.size w24).alloc (Nat.le_refl _) o) kog_2
      go_wp2_with fail
      clear a_k0_0 a_k0_1 a_k0_2 a_kow_0 a_kow_1 a_kow_2 a_kog_0 a_kog_1 a_kog_2
      obtain ⟨w25, hw25⟩ : ∃ W, W = w24.alloc (Obj.cells #[.int .i8 wR, .int .i8 hR, .slice A24 R.length ca24] 63) := ⟨_, rfl⟩
      have b25 : Below w24.heap.size w24 w25 := by rw [hw25]; exact (Below.refl _ _).alloc (Nat.le_refl _) _
      have wl25 : w24.heap.size < w25.heap.size := by rw [hw25]; simp
      have koh_0 : w25.cell? ⟨w24.heap.size, 0, none⟩ = some (.int .i8 wR) := by rw [hw25]; simp
      have koh_1 : w25.cell? ⟨w24.heap.size, 1, none⟩ = some (.int .i8 hR) := by rw [hw25]; simp
      have koh_2 : w25.cell? ⟨w24.heap.size, 2, none⟩ = some (.slice A24 R.length ca24) := by rw [hw25]; simp
      rw [← hw25]
      clear hw25
      have B25 := below_of B24 B24.size b25
      have zz25 := b25.size
      replace k0_0 := cell_on b25 k0_0
      replace k0_1 := cell_on b25 k0_1
      replace k0_2 := cell_on b25 k0_2
      replace kow_0 := cell_on b25 kow_0
      replace kow_1 := cell_on b25 kow_1
      replace kow_2 := cell_on b25 kow_2
      replace kog_0 := cell_on b25 kog_0
      replace kog_1 := cell_on b25 kog_1
      replace kog_2 := cell_on b25 kog_2
      replace ow := ow.step b25
      replace v0 := v0.step b25
      replace v1 := v1.step b25
      replace og := og.step b25
      replace p0 := p0.step b25
      replace p1 := p1.step b25
      replace oh := oh.step b25
      clear b25
      refine (eq_Bd_L wR hR wR hR _ _ _ _ R R _ (oh.sla Pc.enc_length) (ow.sla Pc.enc_length)).mono ?_
      rintro e w26 ⟨rfl, b26⟩
      have B26 := below_of B25 B25.size b26
      have zz26 := b26.size
      replace k0_0 := cell_on b26 k0_0
      replace k0_1 := cell_on b26 k0_1
      replace k0_2 := cell_on b26 k0_2
      replace kow_0 := cell_on b26 kow_0
      replace kow_1 := cell_on b26 kow_1
      replace kow_2 := cell_on b26 kow_2
      replace kog_0 := cell_on b26 kog_0
      replace kog_1 := cell_on b26 kog_1
      replace kog_2 := cell_on b26 kog_2
      replace koh_0 := cell_on b26 koh_0
      replace koh_1 := cell_on b26 koh_1
      replace koh_2 := cell_on b26 koh_2
      replace ow := ow.step b26
      replace v0 := v0.step b26
      replace v1 := v1.step b26
      replace og := og.step b26
      replace p0 := p0.step b26
      replace p1 := p1.step b26
      replace oh := oh.step b26
      clear b26
      rw [decide_eq_true (show wR = wR ∧ hR = hR ∧ R = R from ⟨rfl, rfl, rfl⟩)]
      go_wp2_with fail
      refine (heldS_Bd_L wR hR _ _ R.length 1 _ (og.sla Pc.enc_length) (by omega) (by omega) (by omega)).mono ?_
      rintro e w27 ⟨rfl, b27⟩
      have B27 := below_of B26 B26.size b27
      have zz27 := b27.size
      replace k0_0 := cell_on b27 k0_0
      replace k0_1 := cell_on b27 k0_1
      replace k0_2 := cell_on b27 k0_2
      replace kow_0 := cell_on b27 kow_0
      replace kow_1 := cell_on b27 kow_1
      replace kow_2 := cell_on b27 kow_2
      replace kog_0 := cell_on b27 kog_0
      replace kog_1 := cell_on b27 kog_1
      replace kog_2 := cell_on b27 kog_2
      replace koh_0 := cell_on b27 koh_0
      replace koh_1 := cell_on b27 koh_1
      replace koh_2 := cell_on b27 koh_2
      replace ow := ow.step b27
      replace v0 := v0.step b27
      replace v1 := v1.step b27
      replace og := og.step b27
      replace p0 := p0.step b27
      replace p1 := p1.step b27
      replace oh := oh.step b27
      clear b27
      go_wp2_with fail
      go_ret
      exact ⟨rfl, B27⟩
    · skip
      simp only [show (1048576 : Int) - (x0.length : Int) < 0 from by omega, if_true] at z0
      have Z0 := hid z0
      clear z0
      go_enter Try.func9, Try.ntmps9
      go_wp2_with fail
      obtain ⟨wb, hwb⟩ : ∃ wb, wb = w.alloc (Obj.cells #[.int .i8 wi0, .int .i8 hi0, .slice a0 x0.length c0] 58) := ⟨_, rfl⟩
      have B0 : Below w.heap.size w wb := by rw [hwb]; exact (Below.refl _ _).alloc (Nat.le_refl _) _
      have k0_0 : wb.cell? ⟨w.heap.size, 0, none⟩ = some (.int .i8 wi0) := by rw [hwb]; simp
      have k0_1 : wb.cell? ⟨w.heap.size, 1, none⟩ = some (.int .i8 hi0) := by rw [hwb]; simp
      have k0_2 : wb.cell? ⟨w.heap.size, 2, none⟩ = some (.slice a0 x0.length c0) := by rw [hwb]; simp
      have wlt : w.heap.size < wb.heap.size := by rw [hwb]; simp
      rw [← hwb]
      clear hwb
      refine (Z0.out _).mono ?_
      rintro e w1 ⟨rfl, b1⟩
      have B1 := below_of B0 B0.size b1
      have zz1 := b1.size
      replace k0_0 := cell_on b1 k0_0
      replace k0_1 := cell_on b1 k0_1
      replace k0_2 := cell_on b1 k0_2
      clear b1
      go_wp2_with fail
      go_ret
      exact ⟨rfl, B1⟩
  · skip
    go_enter Try.func9, Try.ntmps9
    go_wp2_with fail
    obtain ⟨wb, hwb⟩ : ∃ wb, wb = w.alloc (Obj.cells #[.int .i8 wi0, .int .i8 hi0, .slice a0 x0.length c0] 58) := ⟨_, rfl⟩
    have B0 : Below w.heap.size w wb := by rw [hwb]; exact (Below.refl _ _).alloc (Nat.le_refl _) _
    have k0_0 : wb.cell? ⟨w.heap.size, 0, none⟩ = some (.int .i8 wi0) := by rw [hwb]; simp
    have k0_1 : wb.cell? ⟨w.heap.size, 1, none⟩ = some (.int .i8 hi0) := by rw [hwb]; simp
    have k0_2 : wb.cell? ⟨w.heap.size, 2, none⟩ = some (.slice a0 x0.length c0) := by rw [hwb]; simp
    have wlt : w.heap.size < wb.heap.size := by rw [hwb]; simp
    rw [← hwb]
    clear hwb
    go_ret
    exact ⟨rfl, B0⟩
end Go.Proofs.Ytnoiendelcidbaa
