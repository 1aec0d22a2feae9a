/-
  FnExactLayWithDelay' call: it returns true, whatever the arguments are.
  Conditions: none beyond the statement's own.
-/
import Derived.Test.YtgkgklgeobbmlaaConvBd
import Derived.Test.YtgkgklgeobbmlaaConvWy
import Derived.Test.YtgkgklgeobbmlaaDelS
import Derived.Test.YtgkgklgeobbmlaaLawK
import Derived.Test.YtgkgklgeobbmlaaOb
import Derived.Deep.RegionHeld3
namespace Go.Proofs.Ytgkgklgeobbmlaa
open Go.RowKit
set_option linter.unusedSimpArgs false
set_option linter.unusedVariables false

set_option maxRecDepth 100000 in
set_option maxHeartbeats 4000000 in
theorem law_FnExactLayWithDelay (w : World) (wi0 hi0 : Int) (wl0 : -128 ≤ wi0) (wu0 : wi0 ≤ 127) (hl0 : -128 ≤ hi0) (hu0 : hi0 ≤ 127) (a0 : Option Addr) (c0 : Nat) (x0 : List Pc) (ok0 : ∀ p ∈ x0, p.Ok) (s0 : SlA Pc.enc 5 w a0 x0) (q1 : Wy) (okq1 : q1.Ok) (n2 : Int) (nl2 : -9223372036854775808 ≤ n2) (nu2 : n2 ≤ 9223372036854775807) :
    Calls Try.prog 6 #[.agg #[.int .i8 wi0, .int .i8 hi0, .slice a0 x0.length c0], .agg q1.enc.toArray, .int .i64 n2] w fun e w' => e = .returned (.bool true) ∧ Below w.heap.size w w' := by
  obtain ⟨fx1, fy1, sd1, tx1, ty1, ou1⟩ := q1
  have TW1 := fun W => to_Wy_L ⟨fx1, fy1, sd1, tx1, ty1, ou1⟩ W
  simp only [Wy.enc] at TW1
  simp only [Wy.enc]
  have m0 := s0.small
  have z0 := fun W => sz_Bd_L wi0 hi0 a0 x0.length c0 ((1048576 : Int)) W (by omega) (by omega) m0
  by_cases h0 : x0.length ≤ 1048576
  · skip
    simp only [show ¬ ((1048576 : Int) - (x0.length : Int) < 0) from by omega, if_false] at z0
    have l0 : (0 : Int) ≤ (1048576 : Int) - (x0.length : Int) := by omega
    have Z0 := hid z0
    clear z0
    have HS := fun (W : World) (A0 : Option Addr) (C0 : Nat) (h0 : SlA Pc.enc 5 W A0 x0) (q0 : A0 = none → C0 = 0) => LayDelK_S W wi0 hi0 wl0 wu0 hl0 hu0 A0 C0 x0 h0 q0 ok0 (by omega) ⟨fx1, fy1, sd1, tx1, ty1, ou1⟩ okq1 n2 nl2 nu2
    have HI := fun (W : World) (A0 : Option Addr) (C0 : Nat) (h0 : SlA Pc.enc 5 W A0 x0) (q0 : A0 = none → C0 = 0) => LayDelK_I W wi0 hi0 wl0 wu0 hl0 hu0 A0 C0 x0 h0 q0 ok0 (by omega) ⟨fx1, fy1, sd1, tx1, ty1, ou1⟩ okq1 n2 nl2 nu2
    have hRl := LayDelK_len wi0 hi0 x0 ⟨fx1, fy1, sd1, tx1, ty1, ou1⟩ n2 (by omega)
    obtain ⟨R, e_R⟩ : ∃ v, (LayDelKG wi0 hi0 x0 ⟨fx1, fy1, sd1, tx1, ty1, ou1⟩ n2).1.2.2 = v := ⟨_, rfl⟩
    obtain ⟨wR, e_wR⟩ : ∃ v, (LayDelKG wi0 hi0 x0 ⟨fx1, fy1, sd1, tx1, ty1, ou1⟩ n2).1.1 = v := ⟨_, rfl⟩
    obtain ⟨hR, e_hR⟩ : ∃ v, (LayDelKG wi0 hi0 x0 ⟨fx1, fy1, sd1, tx1, ty1, ou1⟩ n2).1.2.1 = v := ⟨_, rfl⟩
    obtain ⟨cd, e_cd⟩ : ∃ v, (LayDelKG wi0 hi0 x0 ⟨fx1, fy1, sd1, tx1, ty1, ou1⟩ n2).2 = v := ⟨_, rfl⟩
    rw [e_R] at hRl
    simp only [e_R, e_wR, e_hR, e_cd, Wy.enc] at HS HI
    replace HS := hid HS
    replace HI := hid HI
    clear e_R e_wR e_hR e_cd
    have cdd : (cd != cd) = false := by simp
    go_enter Try.func6, Try.ntmps6
    go_wp2_with fail
    obtain ⟨wb, hwb⟩ : ∃ wb, wb = (w.alloc (Obj.cells #[.int .i8 wi0, .int .i8 hi0, .slice a0 x0.length c0] 25)).alloc (Obj.cells #[.int .i8 fx1, .int .i8 fy1, .int .i8 sd1, .int .i8 tx1, .int .i8 ty1, .int .i8 ou1] 28) := ⟨_, rfl⟩
    have B0 : Below w.heap.size w wb := by rw [hwb]; exact ((Below.refl _ _).alloc (Nat.le_refl _) _).alloc (by simp) _
    have k0_0 : wb.cell? ⟨w.heap.size, 0, none⟩ = some (.int .i8 wi0) := by rw [hwb]; simp [go_sem]
    have k0_1 : wb.cell? ⟨w.heap.size, 1, none⟩ = some (.int .i8 hi0) := by rw [hwb]; simp [go_sem]
    have k0_2 : wb.cell? ⟨w.heap.size, 2, none⟩ = some (.slice a0 x0.length c0) := by rw [hwb]; simp [go_sem]
    have kw_0 : wb.cell? ⟨w.heap.size + 1, 0, none⟩ = some (.int .i8 fx1) := by rw [hwb]; simp [go_sem]
    have kw_1 : wb.cell? ⟨w.heap.size + 1, 1, none⟩ = some (.int .i8 fy1) := by rw [hwb]; simp [go_sem]
    have kw_2 : wb.cell? ⟨w.heap.size + 1, 2, none⟩ = some (.int .i8 sd1) := by rw [hwb]; simp [go_sem]
    have kw_3 : wb.cell? ⟨w.heap.size + 1, 3, none⟩ = some (.int .i8 tx1) := by rw [hwb]; simp [go_sem]
    have kw_4 : wb.cell? ⟨w.heap.size + 1, 4, none⟩ = some (.int .i8 ty1) := by rw [hwb]; simp [go_sem]
    have kw_5 : wb.cell? ⟨w.heap.size + 1, 5, none⟩ = some (.int .i8 ou1) := by rw [hwb]; simp [go_sem]
    have wlt : w.heap.size + 1 < wb.heap.size := by rw [hwb]; simp
    rw [← hwb]
    clear hwb
    have wsz := B0.size
    refine (Z0.out _).mono ?_
    rintro e w1 ⟨rfl, b1⟩
    have B1 := below_of B0 B0.size b1
    have zz1 := b1.size
    replace k0_0 := cell_on b1 k0_0
    replace k0_1 := cell_on b1 k0_1
    replace k0_2 := cell_on b1 k0_2
    replace kw_0 := cell_on b1 kw_0
    replace kw_1 := cell_on b1 kw_1
    replace kw_2 := cell_on b1 kw_2
    replace kw_3 := cell_on b1 kw_3
    replace kw_4 := cell_on b1 kw_4
    replace kw_5 := cell_on b1 kw_5
    clear b1
    go_wp2_with fail
    have b2 : Below w1.heap.size w1 w1.drew := (Below.refl _ _).drew
    have B2 := below_of B1 B1.size b2
    have zz2 := b2.size
    replace k0_0 := cell_on b2 k0_0
    replace k0_1 := cell_on b2 k0_1
    replace k0_2 := cell_on b2 k0_2
    replace kw_0 := cell_on b2 kw_0
    replace kw_1 := cell_on b2 kw_1
    replace kw_2 := cell_on b2 kw_2
    replace kw_3 := cell_on b2 kw_3
    replace kw_4 := cell_on b2 kw_4
    replace kw_5 := cell_on b2 kw_5
    clear b2
    go_cut [8, 9] from 23 to 31 (fun s6 s7 wx => ∃ (q lo hi : Nat) (A : Option Addr) (ca : Nat), s6 = .pointer (some ⟨q, 0, none⟩) ∧ s7 = .int .i64 cd ∧ BoQ wx q wR hR A R.length ca ∧ Ob Pc.enc 5 98 w.heap.size lo hi wx A ca R ∧ (q < lo ∨ hi ≤ q) ∧ (w1.drew.heap.size ≤ lo ∧ w1.drew.heap.size ≤ q) ∧ Below w1.drew.heap.size w1.drew wx)
    case first =>
      have NN : w1.drew.cell? ⟨w.heap.size, 0, none⟩ = some (.int .i8 wi0) ∧ w1.drew.cell? ⟨w.heap.size, 1, none⟩ = some (.int .i8 hi0) ∧ w1.drew.cell? ⟨w.heap.size, 2, none⟩ = some (.slice a0 x0.length c0) ∧ w1.drew.cell? ⟨w.heap.size + 1, 0, none⟩ = some (.int .i8 fx1) ∧ w1.drew.cell? ⟨w.heap.size + 1, 1, none⟩ = some (.int .i8 fy1) ∧ w1.drew.cell? ⟨w.heap.size + 1, 2, none⟩ = some (.int .i8 sd1) ∧ w1.drew.cell? ⟨w.heap.size + 1, 3, none⟩ = some (.int .i8 tx1) ∧ w1.drew.cell? ⟨w.heap.size + 1, 4, none⟩ = some (.int .i8 ty1) ∧ w1.drew.cell? ⟨w.heap.size + 1, 5, none⟩ = some (.int .i8 ou1) := ⟨k0_0, k0_1, k0_2, kw_0, kw_1, kw_2, kw_3, kw_4, kw_5⟩
      have XB := Below.refl w1.drew.heap.size w1.drew
      have XW := B2
      have QB := boq_new w1.drew 0 0 none 0 0 32
      have QL : w1.drew.heap.size ≤ w1.heap.size := Nat.le_refl _
      have XBd : Below w1.drew.heap.size w1.drew (w1.alloc (.cells #[.int .i8 0, .int .i8 0, .slice none 0 0] 32)).drew := XB.alloc XB.size _
      have XWd : Below w.heap.size w (w1.alloc (.cells #[.int .i8 0, .int .i8 0, .slice none 0 0] 32)).drew := XW.alloc XW.size _
      have QBd : BoQ (w1.alloc (.cells #[.int .i8 0, .int .i8 0, .slice none 0 0] 32)).drew w1.heap.size 0 0 none 0 0 := boq_new w1.drew 0 0 none 0 0 32
      have hid1 := hid QBd
      clear QBd
      have ald : Below w1.drew.heap.size w1.drew (w1.alloc (.cells #[.int .i8 0, .int .i8 0, .slice none 0 0] 32)).drew := XBd
      go_region_held3 (fun w' => w'.cell? ⟨w.heap.size, 0, none⟩ = some (.int .i8 wi0) ∧ w'.cell? ⟨w.heap.size, 1, none⟩ = some (.int .i8 hi0) ∧ w'.cell? ⟨w.heap.size, 2, none⟩ = some (.slice a0 x0.length c0) ∧ w'.cell? ⟨w.heap.size + 1, 0, none⟩ = some (.int .i8 fx1) ∧ w'.cell? ⟨w.heap.size + 1, 1, none⟩ = some (.int .i8 fy1) ∧ w'.cell? ⟨w.heap.size + 1, 2, none⟩ = some (.int .i8 sd1) ∧ w'.cell? ⟨w.heap.size + 1, 3, none⟩ = some (.int .i8 tx1) ∧ w'.cell? ⟨w.heap.size + 1, 4, none⟩ = some (.int .i8 ty1) ∧ w'.cell? ⟨w.heap.size + 1, 5, none⟩ = some (.int .i8 ou1)) (first | with_reducible assumption | with_reducible exact nineL NN XB | with_reducible exact nineL NN (XB.alloc XB.size _) | with_reducible exact nineL NN XBd | with_reducible exact nineL NN XC | with_reducible exact nineL NN (XC.alloc XC.size _) | with_reducible exact nineL NN XBf | with_reducible exact nineL NN (below_set3 XBf QL) | fail) (first | (go_at_call 9; refine (to_Bd_L wi0 hi0 a0 c0 x0 _ ?hs (by omega)).mono ?_; (case hs => first | with_reducible exact s0.below XW | with_reducible exact s0.below (XW.alloc XW.size (.cells #[.int .i8 0, .int .i8 0, .slice none 0 0] 32)) | with_reducible exact s0.below XWd); rintro e w3 ⟨g3, rfl, b3, own3⟩; (first | with_reducible (have XC := below_of XB XB.size b3; have XWC := below_of XW XW.size b3; have XS := XB.size; have XWS := XW.size) | with_reducible (have XC := below_of (XB.alloc XB.size (.cells #[.int .i8 0, .int .i8 0, .slice none 0 0] 32)) (XB.alloc XB.size (.cells #[.int .i8 0, .int .i8 0, .slice none 0 0] 32)).size b3; have XWC := below_of (XW.alloc XW.size (.cells #[.int .i8 0, .int .i8 0, .slice none 0 0] 32)) (XW.alloc XW.size (.cells #[.int .i8 0, .int .i8 0, .slice none 0 0] 32)).size b3; have XS := (XB.alloc XB.size (.cells #[.int .i8 0, .int .i8 0, .slice none 0 0] 32)).size; have XWS := (XW.alloc XW.size (.cells #[.int .i8 0, .int .i8 0, .slice none 0 0] 32)).size) | with_reducible (have XC := below_of XBd XBd.size b3; have XWC := below_of XWd XWd.size b3; have XS := XBd.size; have XWS := XWd.size)); have p0 := Ob.new (b0 := w.heap.size) own3 XWS; (first | with_reducible have QB := QB.below b3 | with_reducible have QB := hid1.out.below b3 | (have QB := boq_new w3 0 0 none 0 0 32; have QL := XC.size)); have XB := XC; have XW := XWC) | (go_at_call 10; refine (TW1 _).mono ?_; rintro e w4 ⟨rfl, b4⟩; (first | with_reducible (have XC := below_of XB XB.size b4; have XWC := below_of XW XW.size b4; have XS := XB.size; have XWS := XW.size) | with_reducible (have XC := below_of (XB.alloc XB.size (.cells #[.int .i8 0, .int .i8 0, .slice none 0 0] 32)) (XB.alloc XB.size (.cells #[.int .i8 0, .int .i8 0, .slice none 0 0] 32)).size b4; have XWC := below_of (XW.alloc XW.size (.cells #[.int .i8 0, .int .i8 0, .slice none 0 0] 32)) (XW.alloc XW.size (.cells #[.int .i8 0, .int .i8 0, .slice none 0 0] 32)).size b4; have XS := (XB.alloc XB.size (.cells #[.int .i8 0, .int .i8 0, .slice none 0 0] 32)).size; have XWS := (XW.alloc XW.size (.cells #[.int .i8 0, .int .i8 0, .slice none 0 0] 32)).size) | with_reducible (have XC := below_of XBd XBd.size b4; have XWC := below_of XWd XWd.size b4; have XS := XBd.size; have XWS := XWd.size)); (first | with_reducible have p0 := p0.step b4 | with_reducible have p0 := (p0.step ((Below.refl _ _).alloc (Nat.le_refl _) (.cells #[.int .i8 0, .int .i8 0, .slice none 0 0] 32))).step b4 | with_reducible have p0 := (p0.step ald).step b4); (first | with_reducible have QB := QB.below b4 | with_reducible have QB := hid1.out.below b4 | (have QB := boq_new w4 0 0 none 0 0 32; have QL := XC.size)); have XB := XC; have XW := XWC) | (go_at_call 26; (first | with_reducible refine (HS.out _ _ _ (p0.sla Pc.enc_length) p0.nilcap).mono ?_ | with_reducible refine (HS.out _ _ _ ((p0.step ((Below.refl _ _).alloc (Nat.le_refl _) (.cells #[.int .i8 0, .int .i8 0, .slice none 0 0] 32))).sla Pc.enc_length) (p0.step ((Below.refl _ _).alloc (Nat.le_refl _) (.cells #[.int .i8 0, .int .i8 0, .slice none 0 0] 32))).nilcap).mono ?_); rintro e w5 ⟨A5, ca5, rfl, b5, own5⟩; (first | with_reducible (have XC := below_of XB XB.size b5; have XWC := below_of XW XW.size b5; have XS := XB.size; have XWS := XW.size) | with_reducible (have XC := below_of (XB.alloc XB.size (.cells #[.int .i8 0, .int .i8 0, .slice none 0 0] 32)) (XB.alloc XB.size (.cells #[.int .i8 0, .int .i8 0, .slice none 0 0] 32)).size b5; have XWC := below_of (XW.alloc XW.size (.cells #[.int .i8 0, .int .i8 0, .slice none 0 0] 32)) (XW.alloc XW.size (.cells #[.int .i8 0, .int .i8 0, .slice none 0 0] 32)).size b5; have XS := (XB.alloc XB.size (.cells #[.int .i8 0, .int .i8 0, .slice none 0 0] 32)).size; have XWS := (XW.alloc XW.size (.cells #[.int .i8 0, .int .i8 0, .slice none 0 0] 32)).size) | with_reducible (have XC := below_of XBd XBd.size b5; have XWC := below_of XWd XWd.size b5; have XS := XBd.size; have XWS := XWd.size)); have QO := Ob.new (b0 := w.heap.size) own5 XWS; (first | with_reducible (have QB5 := QB.below b5; have QN := qn_a QO QB; have XBf := XC; have QOf := QO) | (have QB5 := boq_new w5 0 0 none 0 0 32; have QL := XC.size; have QN := qn_b QO; have XBf := XC.alloc XC.size (.cells #[.int .i8 0, .int .i8 0, .slice none 0 0] 32); have QOf := QO.step ((Below.refl _ _).alloc (Nat.le_refl _) (.cells #[.int .i8 0, .int .i8 0, .slice none 0 0] 32)))); have QLo := XS; obtain ⟨-, r0, r1, r2, rz⟩ := id QB5; have z0 := rz 0; have z1 := rz 1; have z2 := rz 2))
      all_goals (
        go_wp2_with fail
        go_meet
        first | exact ⟨_, _, _, _, _, rfl, rfl, QB5.store3, QOf.set3 QN, QN, ⟨QLo, QL⟩, below_set3 XBf QL⟩ | exact ⟨_, _, _, _, _, rfl, rfl, boq_new _ _ _ _ _ _ _, QO.step ((Below.refl _ _).alloc (Nat.le_refl _) _), QN, ⟨QLo, QL⟩, XC.alloc XC.size _⟩ | trace_state)
    case rest =>
      obtain ⟨q6, lo6, hi6, A6, ca6, rfl, rfl, hbq, hob, hqn6, hql6, b6⟩ := hcut
      obtain ⟨w6, hw6⟩ : ∃ W, W = wc := ⟨_, rfl⟩
      subst hw6
      have B6 := below_of B2 B2.size b6
      have zz6 := b6.size
      have ql6 := hbq.lt
      have tp6 := hob.top
      replace k0_0 := cell_on b6 k0_0
      replace k0_1 := cell_on b6 k0_1
      replace k0_2 := cell_on b6 k0_2
      replace kw_0 := cell_on b6 kw_0
      replace kw_1 := cell_on b6 kw_1
      replace kw_2 := cell_on b6 kw_2
      replace kw_3 := cell_on b6 kw_3
      replace kw_4 := cell_on b6 kw_4
      replace kw_5 := cell_on b6 kw_5
      have ow := hob
      have kow_0 := hbq.c0
      have kow_1 := hbq.c1
      have kow_2 := hbq.c2
      clear hbq hob b6
      go_wp2_with fail
      refine (to_Bd_L wi0 hi0 a0 c0 x0 _ (s0.below B6) (by omega)).mono ?_
      rintro e w7 ⟨g7, rfl, b7, own7⟩
      have d_ow_v0 := ow.top
      have Bp := B6
      have B7 := below_of B6 B6.size b7
      have zz7 := b7.size
      have v0 := Ob.new (b0 := w.heap.size) own7 Bp.size
      clear Bp
      replace k0_0 := cell_on b7 k0_0
      replace k0_1 := cell_on b7 k0_1
      replace k0_2 := cell_on b7 k0_2
      replace kw_0 := cell_on b7 kw_0
      replace kw_1 := cell_on b7 kw_1
      replace kw_2 := cell_on b7 kw_2
      replace kw_3 := cell_on b7 kw_3
      replace kw_4 := cell_on b7 kw_4
      replace kw_5 := cell_on b7 kw_5
      replace kow_0 := cell_on b7 kow_0
      replace kow_1 := cell_on b7 kow_1
      replace kow_2 := cell_on b7 kow_2
      replace ow := ow.step b7
      clear own7 b7
      have a_k0_0 := fun o => cell_on ((Below.refl w7.heap.size w7).alloc (Nat.le_refl _) o) k0_0
      have a_k0_1 := fun o => cell_on ((Below.refl w7.heap.size w7).alloc (Nat.le_refl _) o) k0_1
      have a_k0_2 := fun o => cell_on ((Below.refl w7.heap.size w7).alloc (Nat.le_refl _) o) k0_2
      have a_kw_0 := fun o => cell_on ((Below.refl w7.heap.size w7).alloc (Nat.le_refl _) o) kw_0
      have a_kw_1 := fun o => cell_on ((Below.refl w7.heap.size w7).alloc (Nat.le_refl _) o) kw_1
      have a_kw_2 := fun o => cell_on ((Below.refl w7.heap.size w7).alloc (Nat.le_refl _) o) kw_2
      have a_kw_3 := fun o => cell_on ((Below.refl w7.heap.size w7).alloc (Nat.le_refl _) o) kw_3
      have a_kw_4 := fun o => cell_on ((Below.refl w7.heap.size w7).alloc (Nat.le_refl _) o) kw_4
      have a_kw_5 := fun o => cell_on ((Below.refl w7.heap.size w7).alloc (Nat.le_refl _) o) kw_5
      have a_kow_0 := fun o => cell_on ((Below.refl w7.heap.size w7).alloc (Nat.le_refl _) o) kow_0
      have a_kow_1 := fun o => cell_on ((Below.refl w7.heap.size w7).alloc (Nat.le_refl _) o) kow_1
      have a_kow_2 := fun o => cell_on ((Below.refl w7.heap.size w7).alloc (Nat.le_refl _) o) kow_2
      go_wp2_with fail
      clear a_k0_0 a_k0_1 a_k0_2 a_kw_0 a_kw_1 a_kw_2 a_kw_3 a_kw_4 a_kw_5 a_kow_0 a_kow_1 a_kow_2
      obtain ⟨w8, hw8⟩ : ∃ W, W = w7.alloc (Obj.cells #[.int .i8 wi0, .int .i8 hi0, .slice (some ⟨g7, 0, none⟩) x0.length x0.length] 32) := ⟨_, rfl⟩
      have b8 : Below w7.heap.size w7 w8 := by rw [hw8]; exact (Below.refl _ _).alloc (Nat.le_refl _) _
      have kx0_0 : w8.cell? ⟨w7.heap.size, 0, none⟩ = some (.int .i8 wi0) := by rw [hw8]; simp
      have kx0_1 : w8.cell? ⟨w7.heap.size, 1, none⟩ = some (.int .i8 hi0) := by rw [hw8]; simp
      have kx0_2 : w8.cell? ⟨w7.heap.size, 2, none⟩ = some (.slice (some ⟨g7, 0, none⟩) x0.length x0.length) := by rw [hw8]; simp
      have wl8 : w7.heap.size < w8.heap.size := by rw [hw8]; simp
      rw [← hw8]
      clear hw8
      have B8 := below_of B7 B7.size b8
      have zz8 := b8.size
      replace k0_0 := cell_on b8 k0_0
      replace k0_1 := cell_on b8 k0_1
      replace k0_2 := cell_on b8 k0_2
      replace kw_0 := cell_on b8 kw_0
      replace kw_1 := cell_on b8 kw_1
      replace kw_2 := cell_on b8 kw_2
      replace kw_3 := cell_on b8 kw_3
      replace kw_4 := cell_on b8 kw_4
      replace kw_5 := cell_on b8 kw_5
      replace kow_0 := cell_on b8 kow_0
      replace kow_1 := cell_on b8 kow_1
      replace kow_2 := cell_on b8 kow_2
      replace ow := ow.step b8
      replace v0 := v0.step b8
      clear b8
      have b9 : Below w8.heap.size w8 w8.drew := (Below.refl _ _).drew
      have B9 := below_of B8 B8.size b9
      have zz9 := b9.size
      replace k0_0 := cell_on b9 k0_0
      replace k0_1 := cell_on b9 k0_1
      replace k0_2 := cell_on b9 k0_2
      replace kw_0 := cell_on b9 kw_0
      replace kw_1 := cell_on b9 kw_1
      replace kw_2 := cell_on b9 kw_2
      replace kw_3 := cell_on b9 kw_3
      replace kw_4 := cell_on b9 kw_4
      replace kw_5 := cell_on b9 kw_5
      replace kow_0 := cell_on b9 kow_0
      replace kow_1 := cell_on b9 kow_1
      replace kow_2 := cell_on b9 kow_2
      replace kx0_0 := cell_on b9 kx0_0
      replace kx0_1 := cell_on b9 kx0_1
      replace kx0_2 := cell_on b9 kx0_2
      replace ow := ow.step b9
      replace v0 := v0.step b9
      clear b9
      go_cut [11, 12] from 34 to 41 (fun s6 s7 wx => ∃ (q lo hi : Nat) (A : Option Addr) (ca : Nat), s6 = .pointer (some ⟨q, 0, none⟩) ∧ s7 = .int .i64 cd ∧ BoQ wx q wR hR A R.length ca ∧ Ob Pc.enc 5 98 w.heap.size lo hi wx A ca R ∧ (q < lo ∨ hi ≤ q) ∧ (w8.drew.heap.size ≤ lo ∧ w8.drew.heap.size ≤ q) ∧ Below w8.drew.heap.size w8.drew wx)
      case first =>
        have NN : w8.drew.cell? ⟨w7.heap.size, 0, none⟩ = some (.int .i8 wi0) ∧ w8.drew.cell? ⟨w7.heap.size, 1, none⟩ = some (.int .i8 hi0) ∧ w8.drew.cell? ⟨w7.heap.size, 2, none⟩ = some (.slice (some ⟨g7, 0, none⟩) x0.length x0.length) ∧ w8.drew.cell? ⟨w.heap.size + 1, 0, none⟩ = some (.int .i8 fx1) ∧ w8.drew.cell? ⟨w.heap.size + 1, 1, none⟩ = some (.int .i8 fy1) ∧ w8.drew.cell? ⟨w.heap.size + 1, 2, none⟩ = some (.int .i8 sd1) ∧ w8.drew.cell? ⟨w.heap.size + 1, 3, none⟩ = some (.int .i8 tx1) ∧ w8.drew.cell? ⟨w.heap.size + 1, 4, none⟩ = some (.int .i8 ty1) ∧ w8.drew.cell? ⟨w.heap.size + 1, 5, none⟩ = some (.int .i8 ou1) := ⟨kx0_0, kx0_1, kx0_2, kw_0, kw_1, kw_2, kw_3, kw_4, kw_5⟩
        have XB := Below.refl w8.drew.heap.size w8.drew
        have XW := B9
        have QB := boq_new w8.drew 0 0 none 0 0 32
        have QL : w8.drew.heap.size ≤ w8.heap.size := Nat.le_refl _
        have XBd : Below w8.drew.heap.size w8.drew (w8.alloc (.cells #[.int .i8 0, .int .i8 0, .slice none 0 0] 32)).drew := XB.alloc XB.size _
        have XWd : Below w.heap.size w (w8.alloc (.cells #[.int .i8 0, .int .i8 0, .slice none 0 0] 32)).drew := XW.alloc XW.size _
        have QBd : BoQ (w8.alloc (.cells #[.int .i8 0, .int .i8 0, .slice none 0 0] 32)).drew w8.heap.size 0 0 none 0 0 := boq_new w8.drew 0 0 none 0 0 32
        have hid1 := hid QBd
        clear QBd
        have ald : Below w8.drew.heap.size w8.drew (w8.alloc (.cells #[.int .i8 0, .int .i8 0, .slice none 0 0] 32)).drew := XBd
        go_region_held3 (fun w' => w'.cell? ⟨w7.heap.size, 0, none⟩ = some (.int .i8 wi0) ∧ w'.cell? ⟨w7.heap.size, 1, none⟩ = some (.int .i8 hi0) ∧ w'.cell? ⟨w7.heap.size, 2, none⟩ = some (.slice (some ⟨g7, 0, none⟩) x0.length x0.length) ∧ w'.cell? ⟨w.heap.size + 1, 0, none⟩ = some (.int .i8 fx1) ∧ w'.cell? ⟨w.heap.size + 1, 1, none⟩ = some (.int .i8 fy1) ∧ w'.cell? ⟨w.heap.size + 1, 2, none⟩ = some (.int .i8 sd1) ∧ w'.cell? ⟨w.heap.size + 1, 3, none⟩ = some (.int .i8 tx1) ∧ w'.cell? ⟨w.heap.size + 1, 4, none⟩ = some (.int .i8 ty1) ∧ w'.cell? ⟨w.heap.size + 1, 5, none⟩ = some (.int .i8 ou1)) (first | with_reducible assumption | with_reducible exact nineL NN XB | with_reducible exact nineL NN (XB.alloc XB.size _) | with_reducible exact nineL NN XBd | with_reducible exact nineL NN XC | with_reducible exact nineL NN (XC.alloc XC.size _) | with_reducible exact nineL NN XBf | with_reducible exact nineL NN (below_set3 XBf QL) | fail) (first | (go_at_call 10; refine (TW1 _).mono ?_; rintro e w10 ⟨rfl, b10⟩; (first | with_reducible (have XC := below_of XB XB.size b10; have XWC := below_of XW XW.size b10; have XS := XB.size; have XWS := XW.size) | with_reducible (have XC := below_of (XB.alloc XB.size (.cells #[.int .i8 0, .int .i8 0, .slice none 0 0] 32)) (XB.alloc XB.size (.cells #[.int .i8 0, .int .i8 0, .slice none 0 0] 32)).size b10; have XWC := below_of (XW.alloc XW.size (.cells #[.int .i8 0, .int .i8 0, .slice none 0 0] 32)) (XW.alloc XW.size (.cells #[.int .i8 0, .int .i8 0, .slice none 0 0] 32)).size b10; have XS := (XB.alloc XB.size (.cells #[.int .i8 0, .int .i8 0, .slice none 0 0] 32)).size; have XWS := (XW.alloc XW.size (.cells #[.int .i8 0, .int .i8 0, .slice none 0 0] 32)).size) | with_reducible (have XC := below_of XBd XBd.size b10; have XWC := below_of XWd XWd.size b10; have XS := XBd.size; have XWS := XWd.size)); (first | with_reducible have v0 := v0.step b10 | with_reducible have v0 := (v0.step ((Below.refl _ _).alloc (Nat.le_refl _) (.cells #[.int .i8 0, .int .i8 0, .slice none 0 0] 32))).step b10 | with_reducible have v0 := (v0.step ald).step b10); (first | with_reducible have QB := QB.below b10 | with_reducible have QB := hid1.out.below b10 | (have QB := boq_new w10 0 0 none 0 0 32; have QL := XC.size)); have XB := XC; have XW := XWC) | (go_at_call 27; (first | with_reducible refine (HI.out _ _ _ (v0.sla Pc.enc_length) v0.nilcap).mono ?_ | with_reducible refine (HI.out _ _ _ ((v0.step ((Below.refl _ _).alloc (Nat.le_refl _) (.cells #[.int .i8 0, .int .i8 0, .slice none 0 0] 32))).sla Pc.enc_length) (v0.step ((Below.refl _ _).alloc (Nat.le_refl _) (.cells #[.int .i8 0, .int .i8 0, .slice none 0 0] 32))).nilcap).mono ?_); rintro e w11 ⟨A11, ca11, rfl, b11, own11⟩; (first | with_reducible (have XC := below_of XB XB.size b11; have XWC := below_of XW XW.size b11; have XS := XB.size; have XWS := XW.size) | with_reducible (have XC := below_of (XB.alloc XB.size (.cells #[.int .i8 0, .int .i8 0, .slice none 0 0] 32)) (XB.alloc XB.size (.cells #[.int .i8 0, .int .i8 0, .slice none 0 0] 32)).size b11; have XWC := below_of (XW.alloc XW.size (.cells #[.int .i8 0, .int .i8 0, .slice none 0 0] 32)) (XW.alloc XW.size (.cells #[.int .i8 0, .int .i8 0, .slice none 0 0] 32)).size b11; have XS := (XB.alloc XB.size (.cells #[.int .i8 0, .int .i8 0, .slice none 0 0] 32)).size; have XWS := (XW.alloc XW.size (.cells #[.int .i8 0, .int .i8 0, .slice none 0 0] 32)).size) | with_reducible (have XC := below_of XBd XBd.size b11; have XWC := below_of XWd XWd.size b11; have XS := XBd.size; have XWS := XWd.size)); have QO := Ob.new (b0 := w.heap.size) own11 XWS; (first | with_reducible (have QB5 := QB.below b11; have QN := qn_a QO QB; have XBf := XC; have QOf := QO) | (have QB5 := boq_new w11 0 0 none 0 0 32; have QL := XC.size; have QN := qn_b QO; have XBf := XC.alloc XC.size (.cells #[.int .i8 0, .int .i8 0, .slice none 0 0] 32); have QOf := QO.step ((Below.refl _ _).alloc (Nat.le_refl _) (.cells #[.int .i8 0, .int .i8 0, .slice none 0 0] 32)))); have QLo := XS; obtain ⟨-, r0, r1, r2, rz⟩ := id QB5; have z0 := rz 0; have z1 := rz 1; have z2 := rz 2))
        all_goals (
          go_wp2_with fail
          go_meet
          first | exact ⟨_, _, _, _, _, rfl, rfl, QB5.store3, QOf.set3 QN, QN, ⟨QLo, QL⟩, below_set3 XBf QL⟩ | exact ⟨_, _, _, _, _, rfl, rfl, boq_new _ _ _ _ _ _ _, QO.step ((Below.refl _ _).alloc (Nat.le_refl _) _), QN, ⟨QLo, QL⟩, XC.alloc XC.size _⟩ | trace_state)
      case rest =>
        obtain ⟨q12, lo12, hi12, A12, ca12, rfl, rfl, hbq, hob, hqn12, hql12, b12⟩ := hcut
        obtain ⟨w12, hw12⟩ : ∃ W, W = wc := ⟨_, rfl⟩
        subst hw12
        have d_ow_og := ow.top
        have d_v0_og := v0.top
        have B12 := below_of B9 B9.size b12
        have zz12 := b12.size
        have ql12 := hbq.lt
        have tp12 := hob.top
        replace k0_0 := cell_on b12 k0_0
        replace k0_1 := cell_on b12 k0_1
        replace k0_2 := cell_on b12 k0_2
        replace kw_0 := cell_on b12 kw_0
        replace kw_1 := cell_on b12 kw_1
        replace kw_2 := cell_on b12 kw_2
        replace kw_3 := cell_on b12 kw_3
        replace kw_4 := cell_on b12 kw_4
        replace kw_5 := cell_on b12 kw_5
        replace kow_0 := cell_on b12 kow_0
        replace kow_1 := cell_on b12 kow_1
        replace kow_2 := cell_on b12 kow_2
        replace kx0_0 := cell_on b12 kx0_0
        replace kx0_1 := cell_on b12 kx0_1
        replace kx0_2 := cell_on b12 kx0_2
        replace ow := ow.step b12
        replace v0 := v0.step b12
        have og := hob
        have kog_0 := hbq.c0
        have kog_1 := hbq.c1
        have kog_2 := hbq.c2
        clear hbq hob b12
        go_wp2_with fail
        refine (eq_Bd_L wR hR wR hR _ _ _ _ R R _ (og.sla Pc.enc_length) (ow.sla Pc.enc_length)).mono ?_
        rintro e w13 ⟨rfl, b13⟩
        have B13 := below_of B12 B12.size b13
        have zz13 := b13.size
        replace k0_0 := cell_on b13 k0_0
        replace k0_1 := cell_on b13 k0_1
        replace k0_2 := cell_on b13 k0_2
        replace kw_0 := cell_on b13 kw_0
        replace kw_1 := cell_on b13 kw_1
        replace kw_2 := cell_on b13 kw_2
        replace kw_3 := cell_on b13 kw_3
        replace kw_4 := cell_on b13 kw_4
        replace kw_5 := cell_on b13 kw_5
        replace kow_0 := cell_on b13 kow_0
        replace kow_1 := cell_on b13 kow_1
        replace kow_2 := cell_on b13 kow_2
        replace kx0_0 := cell_on b13 kx0_0
        replace kx0_1 := cell_on b13 kx0_1
        replace kx0_2 := cell_on b13 kx0_2
        replace kog_0 := cell_on b13 kog_0
        replace kog_1 := cell_on b13 kog_1
        replace kog_2 := cell_on b13 kog_2
        replace ow := ow.step b13
        replace v0 := v0.step b13
        replace og := og.step b13
        clear b13
        rw [decide_eq_true (show wR = wR ∧ hR = hR ∧ R = R from ⟨rfl, rfl, rfl⟩)]
        go_wp2_with fail
        have b14 : Below w13.heap.size w13 w13.drew := (Below.refl _ _).drew
        have B14 := below_of B13 B13.size b14
        have zz14 := b14.size
        replace k0_0 := cell_on b14 k0_0
        replace k0_1 := cell_on b14 k0_1
        replace k0_2 := cell_on b14 k0_2
        replace kw_0 := cell_on b14 kw_0
        replace kw_1 := cell_on b14 kw_1
        replace kw_2 := cell_on b14 kw_2
        replace kw_3 := cell_on b14 kw_3
        replace kw_4 := cell_on b14 kw_4
        replace kw_5 := cell_on b14 kw_5
        replace kow_0 := cell_on b14 kow_0
        replace kow_1 := cell_on b14 kow_1
        replace kow_2 := cell_on b14 kow_2
        replace kx0_0 := cell_on b14 kx0_0
        replace kx0_1 := cell_on b14 kx0_1
        replace kx0_2 := cell_on b14 kx0_2
        replace kog_0 := cell_on b14 kog_0
        replace kog_1 := cell_on b14 kog_1
        replace kog_2 := cell_on b14 kog_2
        replace ow := ow.step b14
        replace v0 := v0.step b14
        replace og := og.step b14
        clear b14
        go_region_held3 (fun w' => w'.cell? ⟨w7.heap.size, 0, none⟩ = some (.int .i8 wi0) ∧ w'.cell? ⟨w7.heap.size, 1, none⟩ = some (.int .i8 hi0) ∧ w'.cell? ⟨w7.heap.size, 2, none⟩ = some (.slice (some ⟨g7, 0, none⟩) x0.length x0.length) ∧ w'.cell? ⟨w.heap.size, 0, none⟩ = some (.int .i8 wi0) ∧ w'.cell? ⟨w.heap.size, 1, none⟩ = some (.int .i8 hi0) ∧ w'.cell? ⟨w.heap.size, 2, none⟩ = some (.slice a0 x0.length c0)) ((refine ⟨?_, ?_, ?_, ?_, ?_, ?_⟩ <;> assumption)) (first | (go_at_call 9; refine (to_Bd_L wi0 hi0 a0 c0 x0 _ (s0.below B14) (by omega)).mono ?_; rintro e w15 ⟨g15, rfl, b15, own15⟩; have d_ow_u0 := ow.top; have d_v0_u0 := v0.top; have d_og_u0 := og.top; have Bp := B14; have B15 := below_of B14 B14.size b15; have zz15 := b15.size; have u0 := Ob.new (b0 := w.heap.size) own15 Bp.size; clear Bp; replace k0_0 := cell_on b15 k0_0; replace k0_1 := cell_on b15 k0_1; replace k0_2 := cell_on b15 k0_2; replace kw_0 := cell_on b15 kw_0; replace kw_1 := cell_on b15 kw_1; replace kw_2 := cell_on b15 kw_2; replace kw_3 := cell_on b15 kw_3; replace kw_4 := cell_on b15 kw_4; replace kw_5 := cell_on b15 kw_5; replace kow_0 := cell_on b15 kow_0; replace kow_1 := cell_on b15 kow_1; replace kow_2 := cell_on b15 kow_2; replace kx0_0 := cell_on b15 kx0_0; replace kx0_1 := cell_on b15 kx0_1; replace kx0_2 := cell_on b15 kx0_2; replace kog_0 := cell_on b15 kog_0; replace kog_1 := cell_on b15 kog_1; replace kog_2 := cell_on b15 kog_2; replace ow := ow.step b15; replace v0 := v0.step b15; replace og := og.step b15; clear own15 b15) | (go_at_call 12; refine (eq_Bd_L wi0 hi0 wi0 hi0 _ _ _ _ x0 x0 _ (v0.sla Pc.enc_length) (u0.sla Pc.enc_length)).mono ?_; rintro e w16 ⟨rfl, b16⟩; have B16 := below_of B15 B15.size b16; have zz16 := b16.size; replace k0_0 := cell_on b16 k0_0; replace k0_1 := cell_on b16 k0_1; replace k0_2 := cell_on b16 k0_2; replace kw_0 := cell_on b16 kw_0; replace kw_1 := cell_on b16 kw_1; replace kw_2 := cell_on b16 kw_2; replace kw_3 := cell_on b16 kw_3; replace kw_4 := cell_on b16 kw_4; replace kw_5 := cell_on b16 kw_5; replace kow_0 := cell_on b16 kow_0; replace kow_1 := cell_on b16 kow_1; replace kow_2 := cell_on b16 kow_2; replace kx0_0 := cell_on b16 kx0_0; replace kx0_1 := cell_on b16 kx0_1; replace kx0_2 := cell_on b16 kx0_2; replace kog_0 := cell_on b16 kog_0; replace kog_1 := cell_on b16 kog_1; replace kog_2 := cell_on b16 kog_2; replace ow := ow.step b16; replace v0 := v0.step b16; replace og := og.step b16; replace u0 := u0.step b16; clear b16; rw [decide_eq_true (show wi0 = wi0 ∧ hi0 = hi0 ∧ x0 = x0 from ⟨rfl, rfl, rfl⟩)]))
        go_wp2_with fail
        clear u0
        clear kx0_0
        clear kx0_1
        clear kx0_2
        refine (markS_Bd_L _ wi0 hi0 _ _ x0 (1) _ v0.own (by omega) (by omega) (by omega)).mono ?_
        rintro e w17 ⟨rfl, hg17, own17⟩
        have Bn := v0.below B16 hg17
        have zz17 := hg17.size
        replace k0_0 := by first | exact cell_mark v0 k0_0 hg17 (by dsimp only; omega) | exact cell_mark2 v0 k0_0 hg17 (by dsimp only; omega) | exact cell_mark3 v0 k0_0 hg17 (by dsimp only; omega)
        replace k0_1 := by first | exact cell_mark v0 k0_1 hg17 (by dsimp only; omega) | exact cell_mark2 v0 k0_1 hg17 (by dsimp only; omega) | exact cell_mark3 v0 k0_1 hg17 (by dsimp only; omega)
        replace k0_2 := by first | exact cell_mark v0 k0_2 hg17 (by dsimp only; omega) | exact cell_mark2 v0 k0_2 hg17 (by dsimp only; omega) | exact cell_mark3 v0 k0_2 hg17 (by dsimp only; omega)
        replace kw_0 := by first | exact cell_mark v0 kw_0 hg17 (by dsimp only; omega) | exact cell_mark2 v0 kw_0 hg17 (by dsimp only; omega) | exact cell_mark3 v0 kw_0 hg17 (by dsimp only; omega)
        replace kw_1 := by first | exact cell_mark v0 kw_1 hg17 (by dsimp only; omega) | exact cell_mark2 v0 kw_1 hg17 (by dsimp only; omega) | exact cell_mark3 v0 kw_1 hg17 (by dsimp only; omega)
        replace kw_2 := by first | exact cell_mark v0 kw_2 hg17 (by dsimp only; omega) | exact cell_mark2 v0 kw_2 hg17 (by dsimp only; omega) | exact cell_mark3 v0 kw_2 hg17 (by dsimp only; omega)
        replace kw_3 := by first | exact cell_mark v0 kw_3 hg17 (by dsimp only; omega) | exact cell_mark2 v0 kw_3 hg17 (by dsimp only; omega) | exact cell_mark3 v0 kw_3 hg17 (by dsimp only; omega)
        replace kw_4 := by first | exact cell_mark v0 kw_4 hg17 (by dsimp only; omega) | exact cell_mark2 v0 kw_4 hg17 (by dsimp only; omega) | exact cell_mark3 v0 kw_4 hg17 (by dsimp only; omega)
        replace kw_5 := by first | exact cell_mark v0 kw_5 hg17 (by dsimp only; omega) | exact cell_mark2 v0 kw_5 hg17 (by dsimp only; omega) | exact cell_mark3 v0 kw_5 hg17 (by dsimp only; omega)
        replace kow_0 := by first | exact cell_mark v0 kow_0 hg17 (by dsimp only; omega) | exact cell_mark2 v0 kow_0 hg17 (by dsimp only; omega) | exact cell_mark3 v0 kow_0 hg17 (by dsimp only; omega)
        replace kow_1 := by first | exact cell_mark v0 kow_1 hg17 (by dsimp only; omega) | exact cell_mark2 v0 kow_1 hg17 (by dsimp only; omega) | exact cell_mark3 v0 kow_1 hg17 (by dsimp only; omega)
        replace kow_2 := by first | exact cell_mark v0 kow_2 hg17 (by dsimp only; omega) | exact cell_mark2 v0 kow_2 hg17 (by dsimp only; omega) | exact cell_mark3 v0 kow_2 hg17 (by dsimp only; omega)
        replace kog_0 := by first | exact cell_mark v0 kog_0 hg17 (by dsimp only; omega) | exact cell_mark2 v0 kog_0 hg17 (by dsimp only; omega) | exact cell_mark3 v0 kog_0 hg17 (by dsimp only; omega)
        replace kog_1 := by first | exact cell_mark v0 kog_1 hg17 (by dsimp only; omega) | exact cell_mark2 v0 kog_1 hg17 (by dsimp only; omega) | exact cell_mark3 v0 kog_1 hg17 (by dsimp only; omega)
        replace kog_2 := by first | exact cell_mark v0 kog_2 hg17 (by dsimp only; omega) | exact cell_mark2 v0 kog_2 hg17 (by dsimp only; omega) | exact cell_mark3 v0 kog_2 hg17 (by dsimp only; omega)
        replace ow := ow.other v0 hg17 (by omega)
        replace og := og.other v0 hg17 (by omega)
        replace v0 := v0.marked (ys := markL Pc.mk_ 5 x0.length (1)) (markL_length _ _ _ _) own17 hg17
        have B17 := Bn
        clear Bn hg17 own17
        go_wp2_with fail
        refine (eq_Bd_L wR hR wR hR _ _ _ _ R R _ (og.sla Pc.enc_length) (ow.sla Pc.enc_length)).mono ?_
        rintro e w18 ⟨rfl, b18⟩
        have B18 := below_of B17 B17.size b18
        have zz18 := b18.size
        replace k0_0 := cell_on b18 k0_0
        replace k0_1 := cell_on b18 k0_1
        replace k0_2 := cell_on b18 k0_2
        replace kw_0 := cell_on b18 kw_0
        replace kw_1 := cell_on b18 kw_1
        replace kw_2 := cell_on b18 kw_2
        replace kw_3 := cell_on b18 kw_3
        replace kw_4 := cell_on b18 kw_4
        replace kw_5 := cell_on b18 kw_5
        replace kow_0 := cell_on b18 kow_0
        replace kow_1 := cell_on b18 kow_1
        replace kow_2 := cell_on b18 kow_2
        replace kog_0 := cell_on b18 kog_0
        replace kog_1 := cell_on b18 kog_1
        replace kog_2 := cell_on b18 kog_2
        replace ow := ow.step b18
        replace v0 := v0.step b18
        replace og := og.step b18
        clear b18
        rw [decide_eq_true (show wR = wR ∧ hR = hR ∧ R = R from ⟨rfl, rfl, rfl⟩)]
        go_wp2_with fail
        refine (markS_Bd_L _ wR hR _ _ R (1) _ og.own (by omega) (by omega) (by omega)).mono ?_
        rintro e w19 ⟨rfl, hg19, own19⟩
        have Bn := og.below B18 hg19
        have zz19 := hg19.size
        replace k0_0 := by first | exact cell_mark og k0_0 hg19 (by dsimp only; omega) | exact cell_mark2 og k0_0 hg19 (by dsimp only; omega) | exact cell_mark3 og k0_0 hg19 (by dsimp only; omega)
        replace k0_1 := by first | exact cell_mark og k0_1 hg19 (by dsimp only; omega) | exact cell_mark2 og k0_1 hg19 (by dsimp only; omega) | exact cell_mark3 og k0_1 hg19 (by dsimp only; omega)
        replace k0_2 := by first | exact cell_mark og k0_2 hg19 (by dsimp only; omega) | exact cell_mark2 og k0_2 hg19 (by dsimp only; omega) | exact cell_mark3 og k0_2 hg19 (by dsimp only; omega)
        replace kw_0 := by first | exact cell_mark og kw_0 hg19 (by dsimp only; omega) | exact cell_mark2 og kw_0 hg19 (by dsimp only; omega) | exact cell_mark3 og kw_0 hg19 (by dsimp only; omega)
        replace kw_1 := by first | exact cell_mark og kw_1 hg19 (by dsimp only; omega) | exact cell_mark2 og kw_1 hg19 (by dsimp only; omega) | exact cell_mark3 og kw_1 hg19 (by dsimp only; omega)
        replace kw_2 := by first | exact cell_mark og kw_2 hg19 (by dsimp only; omega) | exact cell_mark2 og kw_2 hg19 (by dsimp only; omega) | exact cell_mark3 og kw_2 hg19 (by dsimp only; omega)
        replace kw_3 := by first | exact cell_mark og kw_3 hg19 (by dsimp only; omega) | exact cell_mark2 og kw_3 hg19 (by dsimp only; omega) | exact cell_mark3 og kw_3 hg19 (by dsimp only; omega)
        replace kw_4 := by first | exact cell_mark og kw_4 hg19 (by dsimp only; omega) | exact cell_mark2 og kw_4 hg19 (by dsimp only; omega) | exact cell_mark3 og kw_4 hg19 (by dsimp only; omega)
        replace kw_5 := by first | exact cell_mark og kw_5 hg19 (by dsimp only; omega) | exact cell_mark2 og kw_5 hg19 (by dsimp only; omega) | exact cell_mark3 og kw_5 hg19 (by dsimp only; omega)
        replace kow_0 := by first | exact cell_mark og kow_0 hg19 (by dsimp only; omega) | exact cell_mark2 og kow_0 hg19 (by dsimp only; omega) | exact cell_mark3 og kow_0 hg19 (by dsimp only; omega)
        replace kow_1 := by first | exact cell_mark og kow_1 hg19 (by dsimp only; omega) | exact cell_mark2 og kow_1 hg19 (by dsimp only; omega) | exact cell_mark3 og kow_1 hg19 (by dsimp only; omega)
        replace kow_2 := by first | exact cell_mark og kow_2 hg19 (by dsimp only; omega) | exact cell_mark2 og kow_2 hg19 (by dsimp only; omega) | exact cell_mark3 og kow_2 hg19 (by dsimp only; omega)
        replace kog_0 := by first | exact cell_mark og kog_0 hg19 (by dsimp only; omega) | exact cell_mark2 og kog_0 hg19 (by dsimp only; omega) | exact cell_mark3 og kog_0 hg19 (by dsimp only; omega)
        replace kog_1 := by first | exact cell_mark og kog_1 hg19 (by dsimp only; omega) | exact cell_mark2 og kog_1 hg19 (by dsimp only; omega) | exact cell_mark3 og kog_1 hg19 (by dsimp only; omega)
        replace kog_2 := by first | exact cell_mark og kog_2 hg19 (by dsimp only; omega) | exact cell_mark2 og kog_2 hg19 (by dsimp only; omega) | exact cell_mark3 og kog_2 hg19 (by dsimp only; omega)
        replace ow := ow.other og hg19 (by omega)
        replace v0 := v0.other og hg19 (by omega)
        replace og := og.marked (ys := markL Pc.mk_ 5 R.length (1)) (markL_length _ _ _ _) own19 hg19
        have B19 := Bn
        clear Bn hg19 own19
        go_wp2_with fail
        refine (heldS_Bd_L wR hR _ _ R.length 1 _ (og.sla Pc.enc_length) (by omega) (by omega) (by omega)).mono ?_
        rintro e w20 ⟨rfl, b20⟩
        have B20 := below_of B19 B19.size b20
        have zz20 := b20.size
        replace k0_0 := cell_on b20 k0_0
        replace k0_1 := cell_on b20 k0_1
        replace k0_2 := cell_on b20 k0_2
        replace kw_0 := cell_on b20 kw_0
        replace kw_1 := cell_on b20 kw_1
        replace kw_2 := cell_on b20 kw_2
        replace kw_3 := cell_on b20 kw_3
        replace kw_4 := cell_on b20 kw_4
        replace kw_5 := cell_on b20 kw_5
        replace kow_0 := cell_on b20 kow_0
        replace kow_1 := cell_on b20 kow_1
        replace kow_2 := cell_on b20 kow_2
        replace kog_0 := cell_on b20 kog_0
        replace kog_1 := cell_on b20 kog_1
        replace kog_2 := cell_on b20 kog_2
        replace ow := ow.step b20
        replace v0 := v0.step b20
        replace og := og.step b20
        clear b20
        go_wp2_with fail
        have b21 : Below w20.heap.size w20 w20.drew := (Below.refl _ _).drew
        have B21 := below_of B20 B20.size b21
        have zz21 := b21.size
        replace k0_0 := cell_on b21 k0_0
        replace k0_1 := cell_on b21 k0_1
        replace k0_2 := cell_on b21 k0_2
        replace kw_0 := cell_on b21 kw_0
        replace kw_1 := cell_on b21 kw_1
        replace kw_2 := cell_on b21 kw_2
        replace kw_3 := cell_on b21 kw_3
        replace kw_4 := cell_on b21 kw_4
        replace kw_5 := cell_on b21 kw_5
        replace kow_0 := cell_on b21 kow_0
        replace kow_1 := cell_on b21 kow_1
        replace kow_2 := cell_on b21 kow_2
        replace kog_0 := cell_on b21 kog_0
        replace kog_1 := cell_on b21 kog_1
        replace kog_2 := cell_on b21 kog_2
        replace ow := ow.step b21
        replace v0 := v0.step b21
        replace og := og.step b21
        clear b21
        go_cut [16, 17] from 83 to 91 (fun s6 s7 wx => ∃ (q lo hi : Nat) (A : Option Addr) (ca : Nat), s6 = .pointer (some ⟨q, 0, none⟩) ∧ s7 = .int .i64 cd ∧ BoQ wx q wR hR A R.length ca ∧ Ob Pc.enc 5 98 w.heap.size lo hi wx A ca R ∧ (q < lo ∨ hi ≤ q) ∧ (w20.drew.heap.size ≤ lo ∧ w20.drew.heap.size ≤ q) ∧ Below w20.drew.heap.size w20.drew wx)
        case first =>
          have NN : w20.drew.cell? ⟨w.heap.size, 0, none⟩ = some (.int .i8 wi0) ∧ w20.drew.cell? ⟨w.heap.size, 1, none⟩ = some (.int .i8 hi0) ∧ w20.drew.cell? ⟨w.heap.size, 2, none⟩ = some (.slice a0 x0.length c0) ∧ w20.drew.cell? ⟨w.heap.size + 1, 0, none⟩ = some (.int .i8 fx1) ∧ w20.drew.cell? ⟨w.heap.size + 1, 1, none⟩ = some (.int .i8 fy1) ∧ w20.drew.cell? ⟨w.heap.size + 1, 2, none⟩ = some (.int .i8 sd1) ∧ w20.drew.cell? ⟨w.heap.size + 1, 3, none⟩ = some (.int .i8 tx1) ∧ w20.drew.cell? ⟨w.heap.size + 1, 4, none⟩ = some (.int .i8 ty1) ∧ w20.drew.cell? ⟨w.heap.size + 1, 5, none⟩ = some (.int .i8 ou1) := ⟨k0_0, k0_1, k0_2, kw_0, kw_1, kw_2, kw_3, kw_4, kw_5⟩
          have XB := Below.refl w20.drew.heap.size w20.drew
          have XW := B21
          have QB := boq_new w20.drew 0 0 none 0 0 32
          have QL : w20.drew.heap.size ≤ w20.heap.size := Nat.le_refl _
          have XBd : Below w20.drew.heap.size w20.drew (w20.alloc (.cells #[.int .i8 0, .int .i8 0, .slice none 0 0] 32)).drew := XB.alloc XB.size _
          have XWd : Below w.heap.size w (w20.alloc (.cells #[.int .i8 0, .int .i8 0, .slice none 0 0] 32)).drew := XW.alloc XW.size _
          have QBd : BoQ (w20.alloc (.cells #[.int .i8 0, .int .i8 0, .slice none 0 0] 32)).drew w20.heap.size 0 0 none 0 0 := boq_new w20.drew 0 0 none 0 0 32
          have hid1 := hid QBd
          clear QBd
          have ald : Below w20.drew.heap.size w20.drew (w20.alloc (.cells #[.int .i8 0, .int .i8 0, .slice none 0 0] 32)).drew := XBd
          go_region_held3 (fun w' => w'.cell? ⟨w.heap.size, 0, none⟩ = some (.int .i8 wi0) ∧ w'.cell? ⟨w.heap.size, 1, none⟩ = some (.int .i8 hi0) ∧ w'.cell? ⟨w.heap.size, 2, none⟩ = some (.slice a0 x0.length c0) ∧ w'.cell? ⟨w.heap.size + 1, 0, none⟩ = some (.int .i8 fx1) ∧ w'.cell? ⟨w.heap.size + 1, 1, none⟩ = some (.int .i8 fy1) ∧ w'.cell? ⟨w.heap.size + 1, 2, none⟩ = some (.int .i8 sd1) ∧ w'.cell? ⟨w.heap.size + 1, 3, none⟩ = some (.int .i8 tx1) ∧ w'.cell? ⟨w.heap.size + 1, 4, none⟩ = some (.int .i8 ty1) ∧ w'.cell? ⟨w.heap.size + 1, 5, none⟩ = some (.int .i8 ou1)) (first | with_reducible assumption | with_reducible exact nineL NN XB | with_reducible exact nineL NN (XB.alloc XB.size _) | with_reducible exact nineL NN XBd | with_reducible exact nineL NN XC | with_reducible exact nineL NN (XC.alloc XC.size _) | with_reducible exact nineL NN XBf | with_reducible exact nineL NN (below_set3 XBf QL) | fail) (first | (go_at_call 9; refine (to_Bd_L wi0 hi0 a0 c0 x0 _ ?hs (by omega)).mono ?_; (case hs => first | with_reducible exact s0.below XW | with_reducible exact s0.below (XW.alloc XW.size (.cells #[.int .i8 0, .int .i8 0, .slice none 0 0] 32)) | with_reducible exact s0.below XWd); rintro e w22 ⟨g22, rfl, b22, own22⟩; (first | with_reducible (have XC := below_of XB XB.size b22; have XWC := below_of XW XW.size b22; have XS := XB.size; have XWS := XW.size) | with_reducible (have XC := below_of (XB.alloc XB.size (.cells #[.int .i8 0, .int .i8 0, .slice none 0 0] 32)) (XB.alloc XB.size (.cells #[.int .i8 0, .int .i8 0, .slice none 0 0] 32)).size b22; have XWC := below_of (XW.alloc XW.size (.cells #[.int .i8 0, .int .i8 0, .slice none 0 0] 32)) (XW.alloc XW.size (.cells #[.int .i8 0, .int .i8 0, .slice none 0 0] 32)).size b22; have XS := (XB.alloc XB.size (.cells #[.int .i8 0, .int .i8 0, .slice none 0 0] 32)).size; have XWS := (XW.alloc XW.size (.cells #[.int .i8 0, .int .i8 0, .slice none 0 0] 32)).size) | with_reducible (have XC := below_of XBd XBd.size b22; have XWC := below_of XWd XWd.size b22; have XS := XBd.size; have XWS := XWd.size)); have p0 := Ob.new (b0 := w.heap.size) own22 XWS; (first | with_reducible have QB := QB.below b22 | with_reducible have QB := hid1.out.below b22 | (have QB := boq_new w22 0 0 none 0 0 32; have QL := XC.size)); have XB := XC; have XW := XWC) | (go_at_call 10; refine (TW1 _).mono ?_; rintro e w23 ⟨rfl, b23⟩; (first | with_reducible (have XC := below_of XB XB.size b23; have XWC := below_of XW XW.size b23; have XS := XB.size; have XWS := XW.size) | with_reducible (have XC := below_of (XB.alloc XB.size (.cells #[.int .i8 0, .int .i8 0, .slice none 0 0] 32)) (XB.alloc XB.size (.cells #[.int .i8 0, .int .i8 0, .slice none 0 0] 32)).size b23; have XWC := below_of (XW.alloc XW.size (.cells #[.int .i8 0, .int .i8 0, .slice none 0 0] 32)) (XW.alloc XW.size (.cells #[.int .i8 0, .int .i8 0, .slice none 0 0] 32)).size b23; have XS := (XB.alloc XB.size (.cells #[.int .i8 0, .int .i8 0, .slice none 0 0] 32)).size; have XWS := (XW.alloc XW.size (.cells #[.int .i8 0, .int .i8 0, .slice none 0 0] 32)).size) | with_reducible (have XC := below_of XBd XBd.size b23; have XWC := below_of XWd XWd.size b23; have XS := XBd.size; have XWS := XWd.size)); (first | with_reducible have p0 := p0.step b23 | with_reducible have p0 := (p0.step ((Below.refl _ _).alloc (Nat.le_refl _) (.cells #[.int .i8 0, .int .i8 0, .slice none 0 0] 32))).step b23 | with_reducible have p0 := (p0.step ald).step b23); (first | with_reducible have QB := QB.below b23 | with_reducible have QB := hid1.out.below b23 | (have QB := boq_new w23 0 0 none 0 0 32; have QL := XC.size)); have XB := XC; have XW := XWC) | (go_at_call 27; (first | with_reducible refine (HI.out _ _ _ (p0.sla Pc.enc_length) p0.nilcap).mono ?_ | with_reducible refine (HI.out _ _ _ ((p0.step ((Below.refl _ _).alloc (Nat.le_refl _) (.cells #[.int .i8 0, .int .i8 0, .slice none 0 0] 32))).sla Pc.enc_length) (p0.step ((Below.refl _ _).alloc (Nat.le_refl _) (.cells #[.int .i8 0, .int .i8 0, .slice none 0 0] 32))).nilcap).mono ?_); rintro e w24 ⟨A24, ca24, rfl, b24, own24⟩; (first | with_reducible (have XC := below_of XB XB.size b24; have XWC := below_of XW XW.size b24; have XS := XB.size; have XWS := XW.size) | with_reducible (have XC := below_of (XB.alloc XB.size (.cells #[.int .i8 0, .int .i8 0, .slice none 0 0] 32)) (XB.alloc XB.size (.cells #[.int .i8 0, .int .i8 0, .slice none 0 0] 32)).size b24; have XWC := below_of (XW.alloc XW.size (.cells #[.int .i8 0, .int .i8 0, .slice none 0 0] 32)) (XW.alloc XW.size (.cells #[.int .i8 0, .int .i8 0, .slice none 0 0] 32)).size b24; have XS := (XB.alloc XB.size (.cells #[.int .i8 0, .int .i8 0, .slice none 0 0] 32)).size; have XWS := (XW.alloc XW.size (.cells #[.int .i8 0, .int .i8 0, .slice none 0 0] 32)).size) | with_reducible (have XC := below_of XBd XBd.size b24; have XWC := below_of XWd XWd.size b24; have XS := XBd.size; have XWS := XWd.size)); have QO := Ob.new (b0 := w.heap.size) own24 XWS; (first | with_reducible (have QB5 := QB.below b24; have QN := qn_a QO QB; have XBf := XC; have QOf := QO) | (have QB5 := boq_new w24 0 0 none 0 0 32; have QL := XC.size; have QN := qn_b QO; have XBf := XC.alloc XC.size (.cells #[.int .i8 0, .int .i8 0, .slice none 0 0] 32); have QOf := QO.step ((Below.refl _ _).alloc (Nat.le_refl _) (.cells #[.int .i8 0, .int .i8 0, .slice none 0 0] 32)))); have QLo := XS; obtain ⟨-, r0, r1, r2, rz⟩ := id QB5; have z0 := rz 0; have z1 := rz 1; have z2 := rz 2))
          all_goals (
            go_wp2_with fail
            go_meet
            first | exact ⟨_, _, _, _, _, rfl, rfl, QB5.store3, QOf.set3 QN, QN, ⟨QLo, QL⟩, below_set3 XBf QL⟩ | exact ⟨_, _, _, _, _, rfl, rfl, boq_new _ _ _ _ _ _ _, QO.step ((Below.refl _ _).alloc (Nat.le_refl _) _), QN, ⟨QLo, QL⟩, XC.alloc XC.size _⟩ | trace_state)
        case rest =>
          obtain ⟨q25, lo25, hi25, A25, ca25, rfl, rfl, hbq, hob, hqn25, hql25, b25⟩ := hcut
          obtain ⟨w25, hw25⟩ : ∃ W, W = wc := ⟨_, rfl⟩
          subst hw25
          have d_ow_oh := ow.top
          have d_v0_oh := v0.top
          have d_og_oh := og.top
          have B25 := below_of B21 B21.size b25
          have zz25 := b25.size
          have ql25 := hbq.lt
          have tp25 := hob.top
          replace k0_0 := cell_on b25 k0_0
          replace k0_1 := cell_on b25 k0_1
          replace k0_2 := cell_on b25 k0_2
          replace kw_0 := cell_on b25 kw_0
          replace kw_1 := cell_on b25 kw_1
          replace kw_2 := cell_on b25 kw_2
          replace kw_3 := cell_on b25 kw_3
          replace kw_4 := cell_on b25 kw_4
          replace kw_5 := cell_on b25 kw_5
          replace kow_0 := cell_on b25 kow_0
          replace kow_1 := cell_on b25 kow_1
          replace kow_2 := cell_on b25 kow_2
          replace kog_0 := cell_on b25 kog_0
          replace kog_1 := cell_on b25 kog_1
          replace kog_2 := cell_on b25 kog_2
          replace ow := ow.step b25
          replace v0 := v0.step b25
          replace og := og.step b25
          have oh := hob
          have koh_0 := hbq.c0
          have koh_1 := hbq.c1
          have koh_2 := hbq.c2
          clear hbq hob b25
          go_wp2_with fail
          refine (eq_Bd_L wR hR wR hR _ _ _ _ R R _ (oh.sla Pc.enc_length) (ow.sla Pc.enc_length)).mono ?_
          rintro e w26 ⟨rfl, b26⟩
          have B26 := below_of B25 B25.size b26
          have zz26 := b26.size
          replace k0_0 := cell_on b26 k0_0
          replace k0_1 := cell_on b26 k0_1
          replace k0_2 := cell_on b26 k0_2
          replace kw_0 := cell_on b26 kw_0
          replace kw_1 := cell_on b26 kw_1
          replace kw_2 := cell_on b26 kw_2
          replace kw_3 := cell_on b26 kw_3
          replace kw_4 := cell_on b26 kw_4
          replace kw_5 := cell_on b26 kw_5
          replace kow_0 := cell_on b26 kow_0
          replace kow_1 := cell_on b26 kow_1
          replace kow_2 := cell_on b26 kow_2
          replace kog_0 := cell_on b26 kog_0
          replace kog_1 := cell_on b26 kog_1
          replace kog_2 := cell_on b26 kog_2
          replace koh_0 := cell_on b26 koh_0
          replace koh_1 := cell_on b26 koh_1
          replace koh_2 := cell_on b26 koh_2
          replace ow := ow.step b26
          replace v0 := v0.step b26
          replace og := og.step b26
          replace oh := oh.step b26
          clear b26
          rw [decide_eq_true (show wR = wR ∧ hR = hR ∧ R = R from ⟨rfl, rfl, rfl⟩)]
          go_wp2_with fail
          refine (heldS_Bd_L wR hR _ _ R.length 1 _ (og.sla Pc.enc_length) (by omega) (by omega) (by omega)).mono ?_
          rintro e w27 ⟨rfl, b27⟩
          have B27 := below_of B26 B26.size b27
          have zz27 := b27.size
          replace k0_0 := cell_on b27 k0_0
          replace k0_1 := cell_on b27 k0_1
          replace k0_2 := cell_on b27 k0_2
          replace kw_0 := cell_on b27 kw_0
          replace kw_1 := cell_on b27 kw_1
          replace kw_2 := cell_on b27 kw_2
          replace kw_3 := cell_on b27 kw_3
          replace kw_4 := cell_on b27 kw_4
          replace kw_5 := cell_on b27 kw_5
          replace kow_0 := cell_on b27 kow_0
          replace kow_1 := cell_on b27 kow_1
          replace kow_2 := cell_on b27 kow_2
          replace kog_0 := cell_on b27 kog_0
          replace kog_1 := cell_on b27 kog_1
          replace kog_2 := cell_on b27 kog_2
          replace koh_0 := cell_on b27 koh_0
          replace koh_1 := cell_on b27 koh_1
          replace koh_2 := cell_on b27 koh_2
          replace ow := ow.step b27
          replace v0 := v0.step b27
          replace og := og.step b27
          replace oh := oh.step b27
          clear b27
          go_wp2_with fail
          go_ret
          exact ⟨rfl, B27⟩
  · skip
    simp only [show (1048576 : Int) - (x0.length : Int) < 0 from by omega, if_true] at z0
    have Z0 := hid z0
    clear z0
    go_enter Try.func6, Try.ntmps6
    go_wp2_with fail
    obtain ⟨wb, hwb⟩ : ∃ wb, wb = (w.alloc (Obj.cells #[.int .i8 wi0, .int .i8 hi0, .slice a0 x0.length c0] 25)).alloc (Obj.cells #[.int .i8 fx1, .int .i8 fy1, .int .i8 sd1, .int .i8 tx1, .int .i8 ty1, .int .i8 ou1] 28) := ⟨_, rfl⟩
    have B0 : Below w.heap.size w wb := by rw [hwb]; exact ((Below.refl _ _).alloc (Nat.le_refl _) _).alloc (by simp) _
    have k0_0 : wb.cell? ⟨w.heap.size, 0, none⟩ = some (.int .i8 wi0) := by rw [hwb]; simp [go_sem]
    have k0_1 : wb.cell? ⟨w.heap.size, 1, none⟩ = some (.int .i8 hi0) := by rw [hwb]; simp [go_sem]
    have k0_2 : wb.cell? ⟨w.heap.size, 2, none⟩ = some (.slice a0 x0.length c0) := by rw [hwb]; simp [go_sem]
    have kw_0 : wb.cell? ⟨w.heap.size + 1, 0, none⟩ = some (.int .i8 fx1) := by rw [hwb]; simp [go_sem]
    have kw_1 : wb.cell? ⟨w.heap.size + 1, 1, none⟩ = some (.int .i8 fy1) := by rw [hwb]; simp [go_sem]
    have kw_2 : wb.cell? ⟨w.heap.size + 1, 2, none⟩ = some (.int .i8 sd1) := by rw [hwb]; simp [go_sem]
    have kw_3 : wb.cell? ⟨w.heap.size + 1, 3, none⟩ = some (.int .i8 tx1) := by rw [hwb]; simp [go_sem]
    have kw_4 : wb.cell? ⟨w.heap.size + 1, 4, none⟩ = some (.int .i8 ty1) := by rw [hwb]; simp [go_sem]
    have kw_5 : wb.cell? ⟨w.heap.size + 1, 5, none⟩ = some (.int .i8 ou1) := by rw [hwb]; simp [go_sem]
    have wlt : w.heap.size + 1 < wb.heap.size := by rw [hwb]; simp
    rw [← hwb]
    clear hwb
    refine (Z0.out _).mono ?_
    rintro e w1 ⟨rfl, b1⟩
    have B1 := below_of B0 B0.size b1
    have zz1 := b1.size
    replace k0_0 := cell_on b1 k0_0
    replace k0_1 := cell_on b1 k0_1
    replace k0_2 := cell_on b1 k0_2
    replace kw_0 := cell_on b1 kw_0
    replace kw_1 := cell_on b1 kw_1
    replace kw_2 := cell_on b1 kw_2
    replace kw_3 := cell_on b1 kw_3
    replace kw_4 := cell_on b1 kw_4
    replace kw_5 := cell_on b1 kw_5
    clear b1
    go_wp2_with fail
    go_ret
    exact ⟨rfl, B1⟩
end Go.Proofs.Ytgkgklgeobbmlaa
