/-
  WorstWithout and CheckGaps, both the program's and the reference's.
  SafeOrder, both the program's and the reference's.
  SafeOrder, the program's.
  Conditions: the fields are in their kinds' ranges.
-/
import Derived.Test.YthhfndifcdiomaaGreatCostI
import Derived.Test.YthhfndifcdiomaaGreatLeftS
import Derived.Test.YthhfndifcdiomaaGreatSafe
namespace Go.Proofs.YthhfndifcdiomaaGreat
open Go.RowKit
set_option linter.unusedSimpArgs false
set_option linter.unusedVariables false

theorem gaps_zero {wi hi : Int} {xs : List Pc} {gs : List Int} (h : gapsG wi hi xs gs = 0) : BrdOk xs ∧ xs.length ≤ 40 ∧ gapsB xs.length gs = true := by
  unfold gapsG at h
  split at h
  · rename_i h1; exact absurd h h1
  · rename_i h1
    have h2 := built_zero (show builtG wi hi xs = 0 by omega)
    split at h
    · rename_i h3; exact ⟨h2.1, h2.2, h3⟩
    · cases h
def WorstWithoutG (wi hi : Int) (xs : List Pc) (gs : List Int) : Int × Int := if gapsG wi hi xs gs = 0 then (leftG xs gs, 0) else (0, gapsG wi hi xs gs)
def CheckGapsG (wi hi : Int) (xs : List Pc) (gs : List Int) (most : Int) : Bool × Int := if gapsG wi hi xs gs = 0 then (decide (leftG xs gs ≤ most), 0) else (false, gapsG wi hi xs gs)
theorem WorstWithout_I (w : World) (wi hi : Int) (wl : -128 ≤ wi) (wu : wi ≤ 127) (hl : -128 ≤ hi) (hu : hi ≤ 127) (a : Option Addr) (c : Nat) (xs : List Pc) (h : SlA Pc.enc 5 w a xs) (_ : a = none → c = 0) (ok : ∀ p ∈ xs, p.Ok) (hs : xs.length ≤ 1048576) (a2 : Option Addr) (c2 : Nat) (gs : List Int) (h2 : SlA en1 1 w a2 gs) (_ : a2 = none → c2 = 0) (ok2 : ∀ p ∈ gs, -9223372036854775808 ≤ p ∧ p ≤ 9223372036854775807) (_ : gs.length ≤ 1048576) :
    Calls Tryz.prog 13 #[.agg #[.int .i8 wi, .int .i8 hi, .slice a xs.length c], .slice a2 gs.length c2] w fun e w' => e = .returned (.tuple #[.int .i64 (WorstWithoutG wi hi xs gs).1, .int .i64 (WorstWithoutG wi hi xs gs).2]) ∧ Below w.heap.size w w' := by
  obtain ⟨W0, hW0⟩ : ∃ W, W = w.alloc (.cells #[.int .i8 wi, .int .i8 hi, .slice a xs.length c] 27) := ⟨_, rfl⟩
  have B0 : Below w.heap.size w W0 := by rw [hW0]; exact (Below.refl _ _).alloc (Nat.le_refl _) _
  have hbd : BdA W0 w.heap.size wi hi a xs.length c := by rw [hW0]; exact bd_box _ _ _ _ _ _ _
  have d0 : W0.cell? ⟨w.heap.size, 0, none⟩ = some (.int .i8 wi) := hbd.c0
  have d1 : W0.cell? ⟨w.heap.size, 1, none⟩ = some (.int .i8 hi) := hbd.c1
  have d2 : W0.cell? ⟨w.heap.size, 2, none⟩ = some (.slice a xs.length c) := hbd.c2
  have HGi := hid (gapsOk_I wi hi a c xs a2 c2 gs W0 ⟨wl, wu, hl, hu⟩ hs (h.below B0) ok (h2.below B0) ok2)
  have HB0 := hid B0
  obtain ⟨v, hv⟩ : ∃ v, gapsG wi hi xs gs = v := ⟨_, rfl⟩
  rw [hv] at HGi
  by_cases hv0 : v = 0
  · have G := hid (show WorstWithoutG wi hi xs gs = (leftG xs gs, 0) by unfold WorstWithoutG; rw [hv, if_pos hv0])
    subst hv0
    obtain ⟨hB, hn, _⟩ := gaps_zero hv
    have HL := hid (fun W (hb : Below W0.heap.size W0 W) => without_I w.heap.size wi hi a c xs a2 c2 gs W hs (hbd.below hb hbd.lt) ((h.below B0).below hb) ((h2.below B0).below hb))
    have HK := hid (hB.part (keep_sub gs xs 0))
    have HGL := hid (show leftG xs gs = costW (keepL gs 0 xs) from rfl)
    generalize keepL gs 0 xs = ys at *
    clear B0 hbd h h2 hv hB
    go_enter Tryz.func13, Tryz.ntmps13
    go_upto_region 1 with fail
    rw [← hW0]
    clear hW0
    go_wp2_with fail
    refine HGi.out.mono ?_
    rintro e w1 ⟨rfl, hb1⟩
    have HL1 := hid (HL.out _ hb1)
    have B1 := hid (below_of HB0.out HB0.out.size hb1)
    clear hb1
    go_wp2_with fail
    refine HL1.out.mono ?_
    rintro e w2 ⟨A, cA, rfl, hb2, own⟩
    have HWo := hid (worstOf_I wi hi A cA ys w2 HK.out (SlA.of_own Pc.enc_length own))
    have B2 := hid (below_of B1.out B1.out.size hb2)
    clear hb2 own
    go_wp2_with fail
    refine HWo.out.mono ?_
    rintro e w3 ⟨rfl, hb3⟩
    have B3 := hid (below_of B2.out B2.out.size hb3)
    clear hb3
    go_wp2_with fail
    refine bodyPost_ret (v := .tuple #[.int .i64 (costW ys), .int .i64 0]) (by simp [results, Tryz.results13, go_sem]) rfl ?_
    exact ⟨by rw [G.out, HGL.out], B3.out⟩
  · have G := hid (show WorstWithoutG wi hi xs gs = (0, v) by unfold WorstWithoutG; rw [hv, if_neg hv0])
    have hne : (v != 0) = true := by simpa using hv0
    clear B0 hbd h h2 hv hv0
    go_enter Tryz.func13, Tryz.ntmps13
    go_upto_region 1 with fail
    rw [← hW0]
    clear hW0
    go_wp2_with fail
    refine HGi.out.mono ?_
    rintro e w1 ⟨rfl, hb1⟩
    have B1 := hid (below_of HB0.out HB0.out.size hb1)
    clear hb1
    go_wp2_with fail
    refine bodyPost_ret (v := .tuple #[.int .i64 0, .int .i64 v]) (by simp [results, Tryz.results13, go_sem]) rfl ?_
    exact ⟨by rw [G.out], B1.out⟩
theorem CheckGaps_I (w : World) (wi hi : Int) (wl : -128 ≤ wi) (wu : wi ≤ 127) (hl : -128 ≤ hi) (hu : hi ≤ 127) (a : Option Addr) (c : Nat) (xs : List Pc) (h : SlA Pc.enc 5 w a xs) (hac : a = none → c = 0) (ok : ∀ p ∈ xs, p.Ok) (hs : xs.length ≤ 1048576) (a2 : Option Addr) (c2 : Nat) (gs : List Int) (h2 : SlA en1 1 w a2 gs) (hac2 : a2 = none → c2 = 0) (ok2 : ∀ p ∈ gs, -9223372036854775808 ≤ p ∧ p ≤ 9223372036854775807) (hs2 : gs.length ≤ 1048576) (most : Int) (ml : -9223372036854775808 ≤ most) (mu : most ≤ 9223372036854775807) :
    Calls Tryz.prog 21 #[.agg #[.int .i8 wi, .int .i8 hi, .slice a xs.length c], .slice a2 gs.length c2, .int .i64 most] w fun e w' => e = .returned (.tuple #[.bool (CheckGapsG wi hi xs gs most).1, .int .i64 (CheckGapsG wi hi xs gs most).2]) ∧ Below w.heap.size w w' := by
  have HWW := hid (fun W (hb : Below w.heap.size w W) => WorstWithout_I W wi hi wl wu hl hu a c xs (h.below hb) hac ok hs a2 c2 gs (h2.below hb) hac2 ok2 hs2)
  have HBo := hid (fun o => (Below.refl w.heap.size w).alloc (Nat.le_refl _) o)
  obtain ⟨v, hv⟩ : ∃ v, gapsG wi hi xs gs = v := ⟨_, rfl⟩
  by_cases hv0 : v = 0
  · have G := hid (show CheckGapsG wi hi xs gs most = (decide (leftG xs gs ≤ most), 0) by unfold CheckGapsG; rw [hv, if_pos hv0])
    have GW : WorstWithoutG wi hi xs gs = (leftG xs gs, 0) := by unfold WorstWithoutG; rw [hv, if_pos hv0]
    rw [GW] at HWW
    generalize leftG xs gs = L at *
    clear h h2 hv hv0 GW
    go_enter Tryz.func21, Tryz.ntmps21
    go_wp2_with fail
    refine (HWW.out _ (by first | exact Below.refl _ _ | exact HBo.out _)).mono ?_
    rintro e w1 ⟨rfl, hb1⟩
    have B1 := hid (show Below w.heap.size w w1 from by first | exact hb1 | exact below_of (HBo.out _) (HBo.out _).size hb1)
    clear hb1
    go_wp2_with fail
    refine bodyPost_ret (v := .tuple #[.bool (decide (L ≤ most)), .int .i64 0]) (by simp [results, Tryz.results21, go_sem]) rfl ?_
    exact ⟨by rw [G.out], B1.out⟩
  · have G := hid (show CheckGapsG wi hi xs gs most = (false, v) by unfold CheckGapsG; rw [hv, if_neg hv0])
    have GW : WorstWithoutG wi hi xs gs = (0, v) := by unfold WorstWithoutG; rw [hv, if_neg hv0]
    rw [GW] at HWW
    have hne : (v == 0) = false := by simpa using hv0
    clear h h2 hv hv0 GW
    go_enter Tryz.func21, Tryz.ntmps21
    go_wp2_with fail
    refine (HWW.out _ (by first | exact Below.refl _ _ | exact HBo.out _)).mono ?_
    rintro e w1 ⟨rfl, hb1⟩
    have B1 := hid (show Below w.heap.size w w1 from by first | exact hb1 | exact below_of (HBo.out _) (HBo.out _).size hb1)
    clear hb1
    go_wp2_with fail
    refine bodyPost_ret (v := .tuple #[.bool false, .int .i64 v]) (by simp [results, Tryz.results21, go_sem]) rfl ?_
    exact ⟨by rw [G.out], B1.out⟩
set_option maxRecDepth 100000 in
set_option maxHeartbeats 3000000 in
theorem SafeOrder_S (w : World) (wi hi : Int) (wl : -128 ≤ wi) (wu : wi ≤ 127) (hl : -128 ≤ hi) (hu : hi ≤ 127) (a : Option Addr) (c : Nat) (xs : List Pc) (h : SlA Pc.enc 5 w a xs) (_ : a = none → c = 0) (ok : ∀ p ∈ xs, p.Ok) (hs : xs.length ≤ 1048576) :
    Calls Tryz.prog 12 #[.agg #[.int .i8 wi, .int .i8 hi, .slice a xs.length c]] w (ResS2 en1 1 2 w (SafeOrderG wi hi xs).1 (SafeOrderG wi hi xs).2.1 (SafeOrderG wi hi xs).2.2) := by
  obtain ⟨W0, hW0⟩ : ∃ W, W = w.alloc (.cells #[.int .i8 wi, .int .i8 hi, .slice a xs.length c] 27) := ⟨_, rfl⟩
  have B0 : Below w.heap.size w W0 := by rw [hW0]; exact (Below.refl _ _).alloc (Nat.le_refl _) _
  have hbd : BdA W0 w.heap.size wi hi a xs.length c := by rw [hW0]; exact bd_box _ _ _ _ _ _ _
  have HAs := hid (asked7_S w.heap.size wi hi a c xs W0 ⟨wl, wu, hl, hu⟩ hbd (h.below B0) ok)
  have HB0 := hid B0
  have HBD := hid (fun W (hb : Below W0.heap.size W0 W) => (⟨hbd.below hb hbd.lt, (h.below B0).below hb⟩ : BdA W w.heap.size wi hi a xs.length c ∧ SlA Pc.enc 5 W a xs))
  obtain ⟨v, hv⟩ : ∃ v, builtG wi hi xs = v := ⟨_, rfl⟩
  rw [hv] at HAs
  by_cases hv0 : v = 0
  · subst hv0
    obtain ⟨hB, hn⟩ := built_zero hv
    have HG := hid (show SafeOrderG wi hi xs = (ordT xs xs.length, peakT xs xs.length, 0) by unfold SafeOrderG; rw [if_pos hv])
    clear B0 hbd h hv
    go_enter Tryz.func12, Tryz.ntmps12
    go_wp2_with fail
    rw [← hW0]
    clear hW0
    refine HAs.out.mono ?_
    rintro e w1 ⟨rfl, hb1⟩
    have HB1 := hid hb1
    have hz0 := HB0.out.size
    have hz1 := hb1.size
    clear hb1
    go_wp2_with fail
    go_loopw [6] (fun o wr => ∃ (m : Nat) (A : Option Addr) (cc : Nat), m ≤ xs.length ∧ o = .slice A m cc ∧ wr.ownsRow w1.heap.size 2 1 (.slice A m cc) m ((ordT xs m).flatMap en1) ∧ Below w1.heap.size w1 wr) (fun o _ => xs.length - lenV o)
    case atStart => exact ⟨0, _, _, Nat.zero_le _, rfl, by simpa [ordT] using World.ownsRow_lit w1 #[] 0 (Nat.le_refl _) (by simp [maxLen]) (by simp), (Below.refl _ _).alloc (Nat.le_refl _) _⟩
    case round =>
      obtain ⟨m, A, cc, hm, rfl, own, hbl⟩ := hrel
      have Ho := hid own
      have HBL := hid hbl
      have hz := hbl.size
      have HBW := hid (below_of HB1.out hz1 hbl)
      obtain ⟨hbd1, hsl1⟩ := HBD.out wr HBW.out
      have c2 := hbd1.c2
      have hol := (ord_ok xs m hm).1
      have hsr : SlA en1 1 wr A (ordT xs m) := en1_row (c := cc) (by rw [hol]; exact own)
      by_cases hlt : m < xs.length
      · have hd : decide ((m : Int) < (xs.length : Int)) = true := by rw [decide_eq_true_iff]; omega
        have HSR := hid hsr
        have HNC := hid (own_nilcase own)
        clear own hbl hbd1 hsl1 hsr
        obtain ⟨V, hV⟩ : ∃ V, V = wr := ⟨_, rfl⟩
        subst hV
        go_wp2_with fail
        clear c2
        go_loopw [7, 8, 9] (fun bv lv iv wr2 => ∃ i : Nat, i ≤ xs.length ∧ iv = .int .i64 i ∧ bv = .int .i64 (turnB (costS xs (ordT xs m)) (hasO (ordT xs m)) i).1 ∧ lv = .int .i64 (turnB (costS xs (ordT xs m)) (hasO (ordT xs m)) i).2 ∧ Below V.heap.size V wr2) (fun _ _ iv _ => xs.length - (intOf iv).toNat)
        case atStart => exact ⟨0, Nat.zero_le _, rfl, rfl, rfl, Below.refl _ _⟩
        case round =>
          obtain ⟨i, hi2, rfl, rfl, rfl, hbl2⟩ := hrel
          have HB2 := hid hbl2
          have hz2 := hbl2.size
          obtain ⟨hbd2, hsl2⟩ := HBD.out wr (below_of HBW.out HBW.out.size hbl2)
          have c2 := hbd2.c2
          have hsr2 := HSR.out.below hbl2
          by_cases hlt2 : i < xs.length
          · have hd2 : decide ((i : Int) < (xs.length : Int)) = true := by rw [decide_eq_true_iff]; omega
            have hh := has_S A cc (ordT xs m) (i : Int) wr hsr2
            rw [hol, show (ordT xs m).any (isN (i : Int)) = hasO (ordT xs m) i from rfl] at hh
            have Hh := hid hh
            have HT := hid (show turnB (costS xs (ordT xs m)) (hasO (ordT xs m)) (i + 1) = if hasO (ordT xs m) i = true then turnB (costS xs (ordT xs m)) (hasO (ordT xs m)) i else if (turnB (costS xs (ordT xs m)) (hasO (ordT xs m)) i).1 < 0 ∨ costS xs (ordT xs m) i < (turnB (costS xs (ordT xs m)) (hasO (ordT xs m)) i).2 then ((i : Int), costS xs (ordT xs m) i) else turnB (costS xs (ordT xs m)) (hasO (ordT xs m)) i from rfl)
            generalize hu : turnB (costS xs (ordT xs m)) (hasO (ordT xs m)) i = u at *
            clear hu hh
            cases hhas : hasO (ordT xs m) i with
            | true =>
              rw [hhas] at Hh HT
              have HT2 := hid (HT.out.trans (if_pos rfl))
              clear hhas HT hbl2 hbd2 hsl2 hsr2
              go_wp2_with fail
              refine Hh.out.mono ?_
              rintro e w3 ⟨rfl, hb3⟩
              have HB3 := hid (below_of HB2.out hz2 hb3)
              clear hb3
              go_wp2_with fail
              exact ⟨⟨i + 1, by omega, by go_num, by rw [HT2.out], by rw [HT2.out], HB3.out⟩, by simp [intOf]; omega⟩
            | false =>
              rw [hhas] at Hh HT
              have HT2 := hid (HT.out.trans (if_neg (by simp)))
              have HCS := hid (show costS xs (ordT xs m) i = costW (someL (ordT xs m ++ [(i : Int)]) 0 xs) from rfl)
              have HK := hid (hB.part (some_sub (ordT xs m ++ [(i : Int)]) xs 0))
              have hkl := some_len (ordT xs m ++ [(i : Int)]) xs 0
              have HSS := hid (fun W (hb : Below V.heap.size V W) A3 c3 (hr : SlA en1 1 W A3 (ordT xs m ++ [(i : Int)])) => someW_S w.heap.size wi hi a c xs A3 c3 (ordT xs m ++ [(i : Int)]) W hB (by omega) (HBD.out W (below_of HBW.out HBW.out.size hb)).1 (HBD.out W (below_of HBW.out HBW.out.size hb)).2 hr (m + 1) (by rw [List.length_append, hol]; rfl))
              have HLN := hid (show (ordT xs m ++ [(i : Int)]).length = m + 1 by rw [List.length_append, hol]; rfl)
              have HFL := hid (flat_one (ordT xs m) (i : Int))
              clear hhas HT hbl2 hbd2 hsl2 hsr2
              go_wp2_with fail
              refine Hh.out.mono ?_
              rintro e w3 ⟨rfl, hb3⟩
              have HB3 := hid (below_of HB2.out hz2 hb3)
              have hz3 := HB3.out.size
              have HR3 := hid (fun o => ((HSR.out.below HB3.out).below ((Below.refl w3.heap.size w3).alloc (Nat.le_refl _) o) : SlA en1 1 (w3.alloc o) A (ordT xs m)).flat en1_length)
              clear hb3
              go_wp2_with (at_builtin; refine app_many rfl _ _ 29 rfl w3.heap.size 2 (.int .i64 0) 1 8 Tryz.underlying29 (by kernel_rfl) rfl (by decide) _ 0 [] rfl (World.ownsRow_lit w3 #[] 0 (Nat.le_refl _) (by simp [maxLen]) (by simp)) A m cc ((ordT xs m).flatMap en1) rfl ?c1 ?c6 ?c2 ?c3 ?c4 (by decide) ?c5 ?_)
              case c1 => rw [flatMap_len en1_length, hol]
              case c6 => intro hm0; exact HR3.out _ (by rw [hol]; exact hm0)
              case c2 => exact oneCell_flat (fun p u hu => by simp [en1] at hu; subst hu; rfl) _
              case c3 => exact fun _ => HNC.out
              case c4 => omega
              case c5 => simp
              intro v4 w4 own4 hg4 hat4
              try simp only [Nat.zero_add, List.nil_append] at own4
              obtain ⟨A4, c4, rfl⟩ := own_slice own4
              have hb4 : Below w3.heap.size w3 w4 := ((Below.refl _ _).alloc (Nat.le_refl _) _).grown hg4 (by simp) (by simp [Value.ownBlock])
              have HB4 := hid (below_of HB3.out hz3 hb4)
              have HO4 := hid own4
              have hz4 := hb4.size
              clear own4 hg4 hat4 hb4
              go_wp2_with (at_builtin; refine app_one (w := w4) 29 2 (.int .i64 0) 1 8 Tryz.underlying29 (by kernel_rfl) rfl (by decide) w3.heap.size _ m _ HO4.out ?d1 (by decide) hz4 [.int .i64 (i : Int)] _ _ rfl rfl rfl _ rfl ?d3 rfl (by intro u hu; simp at hu; rcases hu with rfl; rfl) ?_)
              case d1 => omega
              case d3 => rfl
              intro A5 c5 w5 own5 hb5 hg5 hat5
              have HB5 := hid (HB4.out.trans (hb5.mono hz3))
              have hz5 := hb5.size
              rw [← HFL.out] at own5
              have HS5 := hid (HSS.out w5 HB5.out A5 c5 (en1_row (c := c5) (by rw [HLN.out]; exact own5)))
              clear own5 hb5 hg5 hat5
              generalize someL (ordT xs m ++ [(i : Int)]) 0 xs = ys at *
              go_wp2_with fail
              refine HS5.out.mono ?_
              rintro e w6 ⟨A6, c6, rfl, hb6, own6⟩
              obtain ⟨W7, hW7⟩ : ∃ W, W = w6.alloc (.cells #[.int .i8 wi, .int .i8 hi, .slice A6 ys.length c6] 27) := ⟨_, rfl⟩
              have b7 : Below w6.heap.size w6 W7 := by rw [hW7]; exact (Below.refl _ _).alloc (Nat.le_refl _) _
              have HC := hid (worst_S w6.heap.size wi hi A6 c6 ys W7 HK.out (by omega) (by rw [hW7]; exact bd_box _ _ _ _ _ _ _) ((SlA.of_own Pc.enc_length own6).below b7))
              have B7 := hid (below_of (below_of HB5.out HB5.out.size hb6) (by have := HB5.out.size; have := hb6.size; omega) b7)
              clear own6 hb6 b7
              go_wp2_with fail
              rw [← hW7]
              clear hW7
              refine HC.out.mono ?_
              rintro e w8 ⟨rfl, hb8⟩
              have B8 := hid (below_of B7.out B7.out.size hb8)
              clear hb8
              rw [← HCS.out]
              generalize costS xs (ordT xs m) i = x at *
              by_cases h1 : u.1 < 0
              · have e1 : decide (u.1 < 0) = true := by rw [decide_eq_true_iff]; exact h1
                have HSU := hid (HT2.out.trans (if_pos (.inl h1)))
                clear HT2
                go_wp2_with fail
                exact ⟨⟨i + 1, by omega, by go_num, by rw [HSU.out], by rw [HSU.out], B8.out⟩, by simp [intOf]; omega⟩
              · have e1 : decide (u.1 < 0) = false := by rw [decide_eq_false_iff_not]; exact h1
                by_cases h2 : x < u.2
                · have e2 : decide (x < u.2) = true := by rw [decide_eq_true_iff]; exact h2
                  have HSU := hid (HT2.out.trans (if_pos (.inr h2)))
                  clear HT2
                  go_wp2_with fail
                  exact ⟨⟨i + 1, by omega, by go_num, by rw [HSU.out], by rw [HSU.out], B8.out⟩, by simp [intOf]; omega⟩
                · have e2 : decide (x < u.2) = false := by rw [decide_eq_false_iff_not]; omega
                  have HSU := hid (HT2.out.trans (if_neg (fun h => h.elim h1 h2)))
                  clear HT2
                  go_wp2_with fail
                  exact ⟨⟨i + 1, by omega, by go_num, by rw [HSU.out], by rw [HSU.out], B8.out⟩, by simp [intOf]; omega⟩
          · obtain rfl : i = xs.length := by omega
            have hd2 : decide ((xs.length : Int) < (xs.length : Int)) = false := by rw [decide_eq_false_iff_not]; omega
            have HOT := hid (show ordT xs (m + 1) = ordT xs m ++ [(turnB (costS xs (ordT xs m)) (hasO (ordT xs m)) xs.length).1] from rfl)
            generalize (turnB (costS xs (ordT xs m)) (hasO (ordT xs m)) xs.length) = u at *
            have O2 := hid (own_step Ho.out hbl2)
            have hzb : w1.heap.size ≤ wr.heap.size := by omega
            clear hbl2 hbd2 hsl2 hsr2
            go_wp2_with (at_builtin; refine app_one (w := wr) 29 2 (.int .i64 0) 1 8 Tryz.underlying29 (by kernel_rfl) rfl (by decide) w1.heap.size _ m _ O2.out ?d1 (by decide) hzb [.int .i64 u.1] _ _ rfl rfl rfl _ rfl ?d3 rfl (by intro u hu; simp at hu; rcases hu with rfl; rfl) ?_)
            case d1 => omega
            case d3 => rfl
            intro A5 c5 w5 own5 hb5 hg5 hat5
            have HB5 := hid ((below_of HBL.out hz HB2.out).trans hb5)
            have HO5 := hid own5
            clear own5 hb5 hg5 hat5
            go_wp2_with fail
            refine ⟨⟨m + 1, A5, c5, by omega, rfl, ?_, HB5.out⟩, by simp [lenV]; omega⟩
            rw [HOT.out, flat_one]
            exact HO5.out
      · obtain rfl : m = xs.length := by omega
        have hd : decide ((xs.length : Int) < (xs.length : Int)) = false := by rw [decide_eq_false_iff_not]; omega
        obtain ⟨hc1, hc2⟩ := own_caps own
        have hwo := worsts_S w.heap.size wi hi a c xs A cc (ordT xs xs.length) wr hB (by omega) hbd1 hsl1 hsr (by omega) (by omega) hc2
        rw [hol] at hwo
        have HWO := hid hwo
        have HPK := hid (peak_worsts xs xs.length (Nat.le_refl _))
        generalize worstsL xs (ordT xs xs.length) xs.length = L at *
        clear hwo own hbl hbd1 hsl1 hsr
        go_wp2_with fail
        refine HWO.out.mono ?_
        rintro e w3 ⟨A3, c3, rfl, hb3, own3⟩
        have HP := hid (peak_S A3 c3 L w3 (en1_row own3))
        have HB3 := hid (below_of HBW.out HBW.out.size hb3)
        have HO3 := hid (own_step Ho.out hb3)
        clear hb3 own3
        go_wp2_with fail
        refine HP.out.mono ?_
        rintro e w4 ⟨rfl, rfl⟩
        go_wp2_with fail
        refine bodyPost_ret (v := .tuple #[.slice A xs.length cc, .int .i64 (peakL L), .int .i64 0]) (by simp [results, Tryz.results12, go_sem]) rfl ?_
        rw [HG.out, HPK.out]
        refine ⟨A, cc, by rw [hol], below_of HB0.out hz0 HB3.out, ?_⟩
        rw [hol]
        exact own_low HO3.out (by omega)
  · have HG := hid (show SafeOrderG wi hi xs = ([], 0, v) by unfold SafeOrderG; rw [hv, if_neg hv0])
    have hne : (v != 0) = true := by simpa using hv0
    clear B0 hbd h hv hv0
    go_enter Tryz.func12, Tryz.ntmps12
    go_wp2_with fail
    rw [← hW0]
    clear hW0
    refine HAs.out.mono ?_
    rintro e w1 ⟨rfl, hb1⟩
    have HB1 := hid (below_of HB0.out HB0.out.size hb1)
    clear hb1
    go_wp2_with fail
    refine bodyPost_ret (v := .tuple #[.slice (some ⟨w1.heap.size, 0, none⟩) 0 0, .int .i64 0, .int .i64 v]) (by simp [results, Tryz.results12, go_sem]) rfl ?_
    rw [HG.out]
    exact ResS2.empty HB1.out
theorem contains_len (a : Option Addr) (c : Nat) (xs : List Int) (n : Int) (w : World) (h : SlA en1 1 w a xs) (m : Nat) (hm : m = xs.length) :
    Calls Tryz.prog 38 #[.slice a m c, .int .i64 n] w fun e w' => e = .returned (.bool (xs.any (isN n))) ∧ Below w.heap.size w w' := by
  subst hm
  exact contains_en1_I a c xs n w h
theorem clone_len (a : Option Addr) (c : Nat) (xs : List Int) (w : World) (h : SlA en1 1 w a xs) (hc : a = none → c = 0) (hs : xs.length ≤ 1048576) (m : Nat) (hm : m = xs.length) :
    Calls Tryz.prog 39 #[.slice a m c] w fun e w' => ∃ A c', e = .returned (.slice A m c') ∧ Below w.heap.size w w' ∧ w'.ownsRow w.heap.size 2 1 (.slice A m c') m (xs.flatMap en1) := by
  subst hm
  exact clone_en1_I a c xs w h hc hs
theorem only_len_I (b : Nat) (wi hi : Int) (a : Option Addr) (c : Nat) (xs : List Pc) (a2 : Option Addr) (c2 : Nat) (gs : List Int) (w : World) (hs : xs.length ≤ 1048576) (hb : BdA w b wi hi a xs.length c) (h : SlA Pc.enc 5 w a xs) (h2 : SlA en1 1 w a2 gs) (hgr : ∀ g ∈ gs, 0 ≤ g ∧ g < xs.length) (hgl : gs.length ≤ 1048576) (m : Nat) (hm : m = gs.length) :
    Calls Tryz.prog 33 #[.pointer (some ⟨b, 0, none⟩), .slice a2 m c2] w (ResBd w wi hi (onlyL xs gs)) := by
  subst hm
  exact only_I b wi hi a c xs a2 c2 gs w hs hb h h2 hgr hgl
set_option maxRecDepth 100000 in
set_option maxHeartbeats 8000000 in
theorem SafeOrder_I (w : World) (wi hi : Int) (wl : -128 ≤ wi) (wu : wi ≤ 127) (hl : -128 ≤ hi) (hu : hi ≤ 127) (a : Option Addr) (c : Nat) (xs : List Pc) (h : SlA Pc.enc 5 w a xs) (_ : a = none → c = 0) (ok : ∀ p ∈ xs, p.Ok) (hs : xs.length ≤ 1048576) :
    Calls Tryz.prog 11 #[.agg #[.int .i8 wi, .int .i8 hi, .slice a xs.length c]] w (ResS2 en1 1 2 w (SafeOrderG wi hi xs).1 (SafeOrderG wi hi xs).2.1 (SafeOrderG wi hi xs).2.2) := by
  obtain ⟨W0, hW0⟩ : ∃ W, W = w.alloc (.cells #[.int .i8 wi, .int .i8 hi, .slice a xs.length c] 27) := ⟨_, rfl⟩
  have B0 : Below w.heap.size w W0 := by rw [hW0]; exact (Below.refl _ _).alloc (Nat.le_refl _) _
  have hbd : BdA W0 w.heap.size wi hi a xs.length c := by rw [hW0]; exact bd_box _ _ _ _ _ _ _
  have d0 : W0.cell? ⟨w.heap.size, 0, none⟩ = some (.int .i8 wi) := hbd.c0
  have d1 : W0.cell? ⟨w.heap.size, 1, none⟩ = some (.int .i8 hi) := hbd.c1
  have d2 : W0.cell? ⟨w.heap.size, 2, none⟩ = some (.slice a xs.length c) := hbd.c2
  have HAs := hid (builtOk_I wi hi a c xs W0 ⟨wl, wu, hl, hu⟩ (h.below B0) ok)
  have HB0 := hid B0
  have HBD := hid (fun W (hb : Below W0.heap.size W0 W) => (⟨hbd.below hb hbd.lt, (h.below B0).below hb⟩ : BdA W w.heap.size wi hi a xs.length c ∧ SlA Pc.enc 5 W a xs))
  obtain ⟨v, hv⟩ : ∃ v, builtG wi hi xs = v := ⟨_, rfl⟩
  rw [hv] at HAs
  by_cases hv0 : v = 0
  · subst hv0
    obtain ⟨hB, hn⟩ := built_zero hv
    have HG := hid (show SafeOrderG wi hi xs = (ordT xs xs.length, peakT xs xs.length, 0) by unfold SafeOrderG; rw [if_pos hv])
    clear B0 hbd h hv
    go_enter Tryz.func11, Tryz.ntmps11
    go_upto_region 1 with fail
    rw [← hW0]
    clear hW0
    go_wp2_with fail
    refine HAs.out.mono ?_
    rintro e w1 ⟨rfl, hb1⟩
    have HB1 := hid hb1
    have hz0 := HB0.out.size
    have hz1 := hb1.size
    have c21 := (HBD.out w1 hb1).1.c2
    have c21a := fun o => cell_on ((Below.refl w1.heap.size w1).alloc (Nat.le_refl _) o) c21
    clear hb1 d0 d1 d2
    go_wp2_with fail
    clear c21 c21a
    go_loopw [6, 7, 21] (fun o pv kv wr => ∃ (m : Nat) (A : Option Addr) (cc : Nat), m ≤ xs.length ∧ kv = .int .i64 m ∧ o = .slice A m cc ∧ pv = .int .i64 (peakT xs m) ∧ wr.ownsRow w1.heap.size 2 1 (.slice A m cc) m ((ordT xs m).flatMap en1) ∧ Below w1.heap.size w1 wr) (fun _ _ kv _ => xs.length - (intOf kv).toNat)
    case atStart => exact ⟨0, _, _, Nat.zero_le _, rfl, rfl, rfl, by simpa [ordT] using World.ownsRow_lit w1 #[] 0 (Nat.le_refl _) (by simp [maxLen]) (by simp), (Below.refl _ _).alloc (Nat.le_refl _) _⟩
    case round =>
      obtain ⟨m, A, cc, hm, rfl, rfl, rfl, own, hbl⟩ := hrel
      have Ho := hid own
      have HBL := hid hbl
      have hz := hbl.size
      have HBW := hid (below_of HB1.out hz1 hbl)
      obtain ⟨hbd1, hsl1⟩ := HBD.out wr HBW.out
      have c2 := hbd1.c2
      have hol := (ord_ok xs m hm).1
      have hsr : SlA en1 1 wr A (ordT xs m) := en1_row (c := cc) (by rw [hol]; exact own)
      by_cases hlt : m < xs.length
      · have hd : decide ((m : Int) < (xs.length : Int)) = true := by rw [decide_eq_true_iff]; omega
        have HSR := hid hsr
        have HNC := hid (own_nilcase own)
        clear own hbl hbd1 hsl1 hsr
        obtain ⟨V, hV⟩ : ∃ V, V = wr := ⟨_, rfl⟩
        subst hV
        go_wp2_with fail
        clear c2
        go_loopw [8, 9, 26] (fun bv lv iv wr2 => ∃ i : Nat, i ≤ xs.length ∧ iv = .int .i64 i ∧ bv = .int .i64 (turnB (costS xs (ordT xs m)) (hasO (ordT xs m)) i).1 ∧ lv = .int .i64 (turnB (costS xs (ordT xs m)) (hasO (ordT xs m)) i).2 ∧ Below V.heap.size V wr2) (fun _ _ iv _ => xs.length - (intOf iv).toNat)
        case atStart => exact ⟨0, Nat.zero_le _, rfl, rfl, rfl, Below.refl _ _⟩
        case round =>
          obtain ⟨i, hi2, rfl, rfl, rfl, hbl2⟩ := hrel
          have HB2 := hid hbl2
          have hz2 := hbl2.size
          have hsr2 := HSR.out.below hbl2
          by_cases hlt2 : i < xs.length
          · have hd2 : decide ((i : Int) < (xs.length : Int)) = true := by rw [decide_eq_true_iff]; omega
            have Hh := hid (contains_len A cc (ordT xs m) (i : Int) wr hsr2 m hol.symm)
            rw [show (ordT xs m).any (isN (i : Int)) = hasO (ordT xs m) i from rfl] at Hh
            have HT := hid (show turnB (costS xs (ordT xs m)) (hasO (ordT xs m)) (i + 1) = if hasO (ordT xs m) i = true then turnB (costS xs (ordT xs m)) (hasO (ordT xs m)) i else if (turnB (costS xs (ordT xs m)) (hasO (ordT xs m)) i).1 < 0 ∨ costS xs (ordT xs m) i < (turnB (costS xs (ordT xs m)) (hasO (ordT xs m)) i).2 then ((i : Int), costS xs (ordT xs m) i) else turnB (costS xs (ordT xs m)) (hasO (ordT xs m)) i from rfl)
            generalize hu : turnB (costS xs (ordT xs m)) (hasO (ordT xs m)) i = u at *
            clear hu
            cases hhas : hasO (ordT xs m) i with
            | true =>
              rw [hhas] at Hh HT
              have HT2 := hid (HT.out.trans (if_pos rfl))
              clear hhas HT hbl2 hsr2
              go_wp2_with fail
              refine Hh.out.mono ?_
              rintro e w3 ⟨rfl, hb3⟩
              have HB3 := hid (below_of HB2.out hz2 hb3)
              clear hb3
              go_wp2_with fail
              exact ⟨⟨i + 1, by omega, by go_num, by rw [HT2.out], by rw [HT2.out], HB3.out⟩, by simp [intOf]; omega⟩
            | false =>
              obtain ⟨hnd, hgr⟩ := ord_next hlt hlt2 hhas
              rw [hhas] at Hh HT
              have HT2 := hid (HT.out.trans (if_neg (by simp)))
              have HLN := hid (show (ordT xs m ++ [(i : Int)]).length = m + 1 by rw [List.length_append, hol]; rfl)
              have hco := costW_only hB hnd hgr
              have HCS := hid (show costS xs (ordT xs m) i = costW (onlyL xs (ordT xs m ++ [(i : Int)])) from hco.1.symm)
              have HK := hid hco.2
              have HFL := hid (flat_one (ordT xs m) (i : Int))
              have HCl := hid (fun W (hb : Below V.heap.size V W) => clone_len A cc (ordT xs m) W (HSR.out.below hb) (fun e => HNC.out.elim (fun x => x.2) (fun x => absurd e x)) (by omega) m hol.symm)
              have HON := hid (fun W (hb : Below V.heap.size V W) A3 c3 (hr : SlA en1 1 W A3 (ordT xs m ++ [(i : Int)])) => only_len_I w.heap.size wi hi a c xs A3 c3 (ordT xs m ++ [(i : Int)]) W hs (HBD.out W (below_of HBW.out HBW.out.size hb)).1 (HBD.out W (below_of HBW.out HBW.out.size hb)).2 hr hgr (by rw [HLN.out]; omega) (m + 1) HLN.out.symm)
              clear hhas HT hbl2 hsr2 hco hnd hgr
              go_wp2_with fail
              refine Hh.out.mono ?_
              rintro e w3 ⟨rfl, hb3⟩
              have HB3 := hid (below_of HB2.out hz2 hb3)
              have hz3 := HB3.out.size
              have HCl3 := hid (HCl.out w3 HB3.out)
              clear hb3
              go_wp2_with fail
              refine HCl3.out.mono ?_
              rintro e w4 ⟨A4, c4, rfl, hb4, own4⟩
              have HB4 := hid (below_of HB3.out hz3 hb4)
              have HO4 := hid own4
              have hz4 := hb4.size
              clear own4 hb4
              go_wp2_with (at_builtin; refine app_one (w := w4) 29 2 (.int .i64 0) 1 8 Tryz.underlying29 (by kernel_rfl) rfl (by decide) w3.heap.size _ m _ HO4.out ?d1 (by decide) hz4 [.int .i64 (i : Int)] _ _ rfl rfl rfl _ rfl ?d3 rfl (by intro u hu; simp at hu; rcases hu with rfl; rfl) ?_)
              case d1 => omega
              case d3 => rfl
              intro A5 c5 w5 own5 hb5 hg5 hat5
              have HB5 := hid (HB4.out.trans (hb5.mono hz3))
              have hz5 := hb5.size
              rw [← HFL.out] at own5
              have HS5 := hid (HON.out w5 HB5.out A5 c5 (en1_row (c := c5) (by rw [HLN.out]; exact own5)))
              clear own5 hb5 hg5 hat5
              generalize onlyL xs (ordT xs m ++ [(i : Int)]) = ys at *
              go_wp2_with fail
              refine HS5.out.mono ?_
              rintro e w6 ⟨A6, c6, rfl, hb6, own6⟩
              have HC := hid (worstOf_I wi hi A6 c6 ys w6 HK.out (SlA.of_own Pc.enc_length own6))
              have B7 := hid (below_of HB5.out HB5.out.size hb6)
              clear own6 hb6
              go_wp2_with fail
              refine HC.out.mono ?_
              rintro e w8 ⟨rfl, hb8⟩
              have B8 := hid (below_of B7.out B7.out.size hb8)
              clear hb8
              rw [← HCS.out]
              generalize costS xs (ordT xs m) i = x at *
              by_cases h1 : u.1 < 0
              · have e1 : decide (u.1 < 0) = true := by rw [decide_eq_true_iff]; exact h1
                have HSU := hid (HT2.out.trans (if_pos (.inl h1)))
                clear HT2
                go_wp2_with fail
                exact ⟨⟨i + 1, by omega, by go_num, by rw [HSU.out], by rw [HSU.out], B8.out⟩, by simp [intOf]; omega⟩
              · have e1 : decide (u.1 < 0) = false := by rw [decide_eq_false_iff_not]; exact h1
                by_cases h2 : x < u.2
                · have e2 : decide (x < u.2) = true := by rw [decide_eq_true_iff]; exact h2
                  have HSU := hid (HT2.out.trans (if_pos (.inr h2)))
                  clear HT2
                  go_wp2_with fail
                  exact ⟨⟨i + 1, by omega, by go_num, by rw [HSU.out], by rw [HSU.out], B8.out⟩, by simp [intOf]; omega⟩
                · have e2 : decide (x < u.2) = false := by rw [decide_eq_false_iff_not]; omega
                  have HSU := hid (HT2.out.trans (if_neg (fun h => h.elim h1 h2)))
                  clear HT2
                  go_wp2_with fail
                  exact ⟨⟨i + 1, by omega, by go_num, by rw [HSU.out], by rw [HSU.out], B8.out⟩, by simp [intOf]; omega⟩
          · obtain rfl : i = xs.length := by omega
            have hd2 : decide ((xs.length : Int) < (xs.length : Int)) = false := by rw [decide_eq_false_iff_not]; omega
            have HOT := hid (show ordT xs (m + 1) = ordT xs m ++ [(turnB (costS xs (ordT xs m)) (hasO (ordT xs m)) xs.length).1] from rfl)
            have HPT := hid (show peakT xs (m + 1) = max (peakT xs m) (turnB (costS xs (ordT xs m)) (hasO (ordT xs m)) xs.length).2 from rfl)
            generalize (turnB (costS xs (ordT xs m)) (hasO (ordT xs m)) xs.length) = u at *
            generalize peakT xs m = pk at *
            have O2 := hid (own_step Ho.out hbl2)
            have hzb : w1.heap.size ≤ wr.heap.size := by omega
            clear hbl2 hsr2
            go_wp2_with (at_builtin; refine app_one (w := wr) 29 2 (.int .i64 0) 1 8 Tryz.underlying29 (by kernel_rfl) rfl (by decide) w1.heap.size _ m _ O2.out ?d1 (by decide) hzb [.int .i64 u.1] _ _ rfl rfl rfl _ rfl ?d3 rfl (by intro u hu; simp at hu; rcases hu with rfl; rfl) ?_)
            case d1 => omega
            case d3 => rfl
            intro A5 c5 w5 own5 hb5 hg5 hat5
            have HB5 := hid ((below_of HBL.out hz HB2.out).trans hb5)
            have HO5 := hid own5
            clear own5 hb5 hg5 hat5
            go_wp2_with fail
            refine ⟨⟨m + 1, A5, c5, by omega, by go_num, rfl, ?_, ?_, HB5.out⟩, by simp [intOf]; omega⟩
            · rw [HPT.out]
            · rw [HOT.out, flat_one]
              exact HO5.out
      · obtain rfl : m = xs.length := by omega
        have hd : decide ((xs.length : Int) < (xs.length : Int)) = false := by rw [decide_eq_false_iff_not]; omega
        clear own hbl hbd1 hsl1 hsr
        go_wp2_with fail
        refine bodyPost_ret (v := .tuple #[.slice A xs.length cc, .int .i64 (peakT xs xs.length), .int .i64 0]) (by simp [results, Tryz.results11, go_sem]) rfl ?_
        rw [HG.out]
        refine ⟨A, cc, by rw [hol], below_of HB0.out hz0 HBW.out, ?_⟩
        rw [hol]
        exact own_low Ho.out (by omega)
  · have HG := hid (show SafeOrderG wi hi xs = ([], 0, v) by unfold SafeOrderG; rw [hv, if_neg hv0])
    have hne : (v != 0) = true := by simpa using hv0
    clear B0 hbd h hv hv0
    go_enter Tryz.func11, Tryz.ntmps11
    go_upto_region 1 with fail
    rw [← hW0]
    clear hW0
    go_wp2_with fail
    refine HAs.out.mono ?_
    rintro e w1 ⟨rfl, hb1⟩
    have HB1 := hid (below_of HB0.out HB0.out.size hb1)
    clear hb1
    go_wp2_with fail
    refine bodyPost_ret (v := .tuple #[.slice none 0 0, .int .i64 0, .int .i64 v]) (by simp [results, Tryz.results11, go_sem]) rfl ?_
    rw [HG.out]
    exact ⟨none, 0, rfl, HB1.out, World.ownsRow_nil _ _ _ _⟩
end Go.Proofs.YthhfndifcdiomaaGreat
