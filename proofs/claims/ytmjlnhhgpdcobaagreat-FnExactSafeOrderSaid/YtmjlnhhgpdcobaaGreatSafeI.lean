/-
  SafeOrder, the program's.
  Conditions: the fields are in their kinds' ranges.
-/
import Derived.Test.YtmjlnhhgpdcobaaGreatSafe
namespace Go.Proofs.YtmjlnhhgpdcobaaGreat
open Go.RowKit
set_option linter.unusedSimpArgs false
set_option linter.unusedVariables false

theorem contains_len (a : Option Addr) (c : Nat) (xs : List Int) (n : Int) (w : World) (h : SlA en1 1 w a xs) (m : Nat) (hm : m = xs.length) :
    Calls Tryz.prog 60 #[.slice a m c, .int .i64 n] w fun e w' => e = .returned (.bool (xs.any (isN n))) ∧ Below w.heap.size w w' := by
  subst hm
  exact contains_en1_I a c xs n w h
theorem clone_len (a : Option Addr) (c : Nat) (xs : List Int) (w : World) (h : SlA en1 1 w a xs) (hc : a = none → c = 0) (hs : xs.length ≤ 1048576) (m : Nat) (hm : m = xs.length) :
    Calls Tryz.prog 62 #[.slice a m c] w fun e w' => ∃ A c', e = .returned (.slice A m c') ∧ Below w.heap.size w w' ∧ w'.ownsRow w.heap.size 2 1 (.slice A m c') m (xs.flatMap en1) := by
  subst hm
  exact clone_en1_I a c xs w h hc hs
theorem only_len_I (b : Nat) (wi hi : Int) (a : Option Addr) (c : Nat) (xs : List Pc) (a2 : Option Addr) (c2 : Nat) (gs : List Int) (w : World) (hs : xs.length ≤ 1048576) (hb : BdA w b wi hi a xs.length c) (h : SlA Pc.enc 5 w a xs) (h2 : SlA en1 1 w a2 gs) (hgr : ∀ g ∈ gs, 0 ≤ g ∧ g < xs.length) (hgl : gs.length ≤ 1048576) (m : Nat) (hm : m = gs.length) :
    Calls Tryz.prog 61 #[.pointer (some ⟨b, 0, none⟩), .slice a2 m c2] w (ResBd w wi hi (onlyL xs gs)) := by
  subst hm
  exact only_I b wi hi a c xs a2 c2 gs w hs hb h h2 hgr hgl
set_option maxRecDepth 100000 in
set_option maxHeartbeats 8000000 in
theorem SafeOrder_I (w : World) (wi hi : Int) (wl : -128 ≤ wi) (wu : wi ≤ 127) (hl : -128 ≤ hi) (hu : hi ≤ 127) (a : Option Addr) (c : Nat) (xs : List Pc) (h : SlA Pc.enc 5 w a xs) (_ : a = none → c = 0) (ok : ∀ p ∈ xs, p.Ok) (hs : xs.length ≤ 1048576) :
    Calls Tryz.prog 23 #[.agg #[.int .i8 wi, .int .i8 hi, .slice a xs.length c]] w (ResS2 en1 1 2 w (SafeOrderG wi hi xs).1 (SafeOrderG wi hi xs).2.1 (SafeOrderG wi hi xs).2.2) := by
  obtain ⟨W0, hW0⟩ : ∃ W, W = w.alloc (.cells #[.int .i8 wi, .int .i8 hi, .slice a xs.length c] 32) := ⟨_, rfl⟩
  have B0 : Below w.heap.size w W0 := by rw [hW0]; exact (Below.refl _ _).alloc (Nat.le_refl _) _
  have hbd : BdA W0 w.heap.size wi hi a xs.length c := by rw [hW0]; exact bd_box _ _ _ _ _ _ _
  have d0 : W0.cell? ⟨w.heap.size, 0, none⟩ = some (.int .i8 wi) := hbd.c0
  have d1 : W0.cell? ⟨w.heap.size, 1, none⟩ = some (.int .i8 hi) := hbd.c1
  have d2 : W0.cell? ⟨w.heap.size, 2, none⟩ = some (.slice a xs.length c) := hbd.c2
  have HAs := hid (builtOk_I wi hi a c xs W0 ⟨wl, wu, hl, hu⟩ (h.below B0) ok)
  have HB0 := hid B0
  have HBD := hid (fun W (hb : Below W0.heap.size W0 W) => (⟨hbd.below hb hbd.lt, (h.below B0).below hb⟩ : BdA W w.heap.size wi hi a xs.length c ∧ SlA Pc.enc 5 W a xs))
  obtain ⟨v, hv⟩ : ∃ v, builtG wi hi xs = v := ⟨_, rfl⟩
  rw [hv] at HAs
  by_cases hv0 : v = 0
  · subst hv0
    obtain ⟨hB, hn⟩ := built_zero hv
    have HG := hid (show SafeOrderG wi hi xs = (ordT xs xs.length, peakT xs xs.length, 0) by unfold SafeOrderG; rw [if_pos hv])
    clear B0 hbd h hv
    go_enter Tryz.func23, Tryz.ntmps23
    go_upto_region 1 with fail
    rw [← hW0]
    clear hW0
    go_wp2_with fail
    refine HAs.out.mono ?_
    rintro e w1 ⟨rfl, hb1⟩
    have HB1 := hid hb1
    have hz0 := HB0.out.size
    have hz1 := hb1.size
    have c21 := (HBD.out w1 hb1).1.c2
    have c21a := fun o => cell_on ((Below.refl w1.heap.size w1).alloc (Nat.le_refl _) o) c21
    clear hb1 d0 d1 d2
    go_wp2_with fail
    clear c21 c21a
    go_loopw [6, 7, 21] (fun o pv kv wr => ∃ (m : Nat) (A : Option Addr) (cc : Nat), m ≤ xs.length ∧ kv = .int .i64 m ∧ o = .slice A m cc ∧ pv = .int .i64 (peakT xs m) ∧ wr.ownsRow w1.heap.size 2 1 (.slice A m cc) m ((ordT xs m).flatMap en1) ∧ Below w1.heap.size w1 wr) (fun _ _ kv _ => xs.length - (intOf kv).toNat)
    case atStart => exact ⟨0, _, _, Nat.zero_le _, rfl, rfl, rfl, by simpa [ordT] using World.ownsRow_lit w1 #[] 0 (Nat.le_refl _) (by simp [maxLen]) (by simp), (Below.refl _ _).alloc (Nat.le_refl _) _⟩
    case round =>
      obtain ⟨m, A, cc, hm, rfl, rfl, rfl, own, hbl⟩ := hrel
      have Ho := hid own
      have HBL := hid hbl
      have hz := hbl.size
      have HBW := hid (below_of HB1.out hz1 hbl)
      obtain ⟨hbd1, hsl1⟩ := HBD.out wr HBW.out
      have c2 := hbd1.c2
      have hol := (ord_ok xs m hm).1
      have hsr : SlA en1 1 wr A (ordT xs m) := en1_row (c := cc) (by rw [hol]; exact own)
      by_cases hlt : m < xs.length
      · have hd : decide ((m : Int) < (xs.length : Int)) = true := by rw [decide_eq_true_iff]; omega
        have HSR := hid hsr
        have HNC := hid (own_nilcase own)
        clear own hbl hbd1 hsl1 hsr
        obtain ⟨V, hV⟩ : ∃ V, V = wr := ⟨_, rfl⟩
        subst hV
        go_wp2_with fail
        clear c2
        go_loopw [8, 9, 26] (fun bv lv iv wr2 => ∃ i : Nat, i ≤ xs.length ∧ iv = .int .i64 i ∧ bv = .int .i64 (turnB (costS xs (ordT xs m)) (hasO (ordT xs m)) i).1 ∧ lv = .int .i64 (turnB (costS xs (ordT xs m)) (hasO (ordT xs m)) i).2 ∧ Below V.heap.size V wr2) (fun _ _ iv _ => xs.length - (intOf iv).toNat)
        case atStart => exact ⟨0, Nat.zero_le _, rfl, rfl, rfl, Below.refl _ _⟩
        case round =>
          obtain ⟨i, hi2, rfl, rfl, rfl, hbl2⟩ := hrel
          have HB2 := hid hbl2
          have hz2 := hbl2.size
          have hsr2 := HSR.out.below hbl2
          by_cases hlt2 : i < xs.length
          · have hd2 : decide ((i : Int) < (xs.length : Int)) = true := by rw [decide_eq_true_iff]; omega
            have Hh := hid (contains_len A cc (ordT xs m) (i : Int) wr hsr2 m hol.symm)
            rw [show (ordT xs m).any (isN (i : Int)) = hasO (ordT xs m) i from rfl] at Hh
            have HT := hid (show turnB (costS xs (ordT xs m)) (hasO (ordT xs m)) (i + 1) = if hasO (ordT xs m) i = true then turnB (costS xs (ordT xs m)) (hasO (ordT xs m)) i else if (turnB (costS xs (ordT xs m)) (hasO (ordT xs m)) i).1 < 0 ∨ costS xs (ordT xs m) i < (turnB (costS xs (ordT xs m)) (hasO (ordT xs m)) i).2 then ((i : Int), costS xs (ordT xs m) i) else turnB (costS xs (ordT xs m)) (hasO (ordT xs m)) i from rfl)
            generalize hu : turnB (costS xs (ordT xs m)) (hasO (ordT xs m)) i = u at *
            clear hu
            cases hhas : hasO (ordT xs m) i with
            | true =>
              rw [hhas] at Hh HT
              have HT2 := hid (HT.out.trans (if_pos rfl))
              clear hhas HT hbl2 hsr2
              go_wp2_with fail
              refine Hh.out.mono ?_
              rintro e w3 ⟨rfl, hb3⟩
              have HB3 := hid (below_of HB2.out hz2 hb3)
              clear hb3
              go_wp2_with fail
              exact ⟨⟨i + 1, by omega, by go_num, by rw [HT2.out], by rw [HT2.out], HB3.out⟩, by simp [intOf]; omega⟩
            | false =>
              obtain ⟨hnd, hgr⟩ := ord_next hlt hlt2 hhas
              rw [hhas] at Hh HT
              have HT2 := hid (HT.out.trans (if_neg (by simp)))
              have HLN := hid (show (ordT xs m ++ [(i : Int)]).length = m + 1 by rw [List.length_append, hol]; rfl)
              have hco := costW_only hB hnd hgr
              have HCS := hid (show costS xs (ordT xs m) i = costW (onlyL xs (ordT xs m ++ [(i : Int)])) from hco.1.symm)
              have HK := hid hco.2
              have HFL := hid (flat_one (ordT xs m) (i : Int))
              have HCl := hid (fun W (hb : Below V.heap.size V W) => clone_len A cc (ordT xs m) W (HSR.out.below hb) (fun e => HNC.out.elim (fun x => x.2) (fun x => absurd e x)) (by omega) m hol.symm)
              have HON := hid (fun W (hb : Below V.heap.size V W) A3 c3 (hr : SlA en1 1 W A3 (ordT xs m ++ [(i : Int)])) => only_len_I w.heap.size wi hi a c xs A3 c3 (ordT xs m ++ [(i : Int)]) W hs (HBD.out W (below_of HBW.out HBW.out.size hb)).1 (HBD.out W (below_of HBW.out HBW.out.size hb)).2 hr hgr (by rw [HLN.out]; omega) (m + 1) HLN.out.symm)
              clear hhas HT hbl2 hsr2 hco hnd hgr
              go_wp2_with fail
              refine Hh.out.mono ?_
              rintro e w3 ⟨rfl, hb3⟩
              have HB3 := hid (below_of HB2.out hz2 hb3)
              have hz3 := HB3.out.size
              have HCl3 := hid (HCl.out w3 HB3.out)
              clear hb3
              go_wp2_with fail
              refine HCl3.out.mono ?_
              rintro e w4 ⟨A4, c4, rfl, hb4, own4⟩
              have HB4 := hid (below_of HB3.out hz3 hb4)
              have HO4 := hid own4
              have hz4 := hb4.size
              clear own4 hb4
              go_wp2_with (at_builtin; refine app_one (w := w4) 26 2 (.int .i64 0) 1 8 Tryz.underlying26 (by kernel_rfl) rfl (by decide) w3.heap.size _ m _ HO4.out ?d1 (by decide) hz4 [.int .i64 (i : Int)] _ _ rfl rfl rfl _ rfl ?d3 rfl (by intro u hu; simp at hu; rcases hu with rfl; rfl) ?_)
              case d1 => omega
              case d3 => rfl
              intro A5 c5 w5 own5 hb5 hg5 hat5
              have HB5 := hid (HB4.out.trans (hb5.mono hz3))
              have hz5 := hb5.size
              rw [← HFL.out] at own5
              have HS5 := hid (HON.out w5 HB5.out A5 c5 (en1_row (c := c5) (by rw [HLN.out]; exact own5)))
              clear own5 hb5 hg5 hat5
              generalize onlyL xs (ordT xs m ++ [(i : Int)]) = ys at *
              go_wp2_with fail
              refine HS5.out.mono ?_
              rintro e w6 ⟨A6, c6, rfl, hb6, own6⟩
              have HC := hid (worstOf_I wi hi A6 c6 ys w6 HK.out (SlA.of_own Pc.enc_length own6))
              have B7 := hid (below_of HB5.out HB5.out.size hb6)
              clear own6 hb6
              go_wp2_with fail
              refine HC.out.mono ?_
              rintro e w8 ⟨rfl, hb8⟩
              have B8 := hid (below_of B7.out B7.out.size hb8)
              clear hb8
              rw [← HCS.out]
              generalize costS xs (ordT xs m) i = x at *
              by_cases h1 : u.1 < 0
              · have e1 : decide (u.1 < 0) = true := by rw [decide_eq_true_iff]; exact h1
                have HSU := hid (HT2.out.trans (if_pos (.inl h1)))
                clear HT2
                go_wp2_with fail
                exact ⟨⟨i + 1, by omega, by go_num, by rw [HSU.out], by rw [HSU.out], B8.out⟩, by simp [intOf]; omega⟩
              · have e1 : decide (u.1 < 0) = false := by rw [decide_eq_false_iff_not]; exact h1
                by_cases h2 : x < u.2
                · have e2 : decide (x < u.2) = true := by rw [decide_eq_true_iff]; exact h2
                  have HSU := hid (HT2.out.trans (if_pos (.inr h2)))
                  clear HT2
                  go_wp2_with fail
                  exact ⟨⟨i + 1, by omega, by go_num, by rw [HSU.out], by rw [HSU.out], B8.out⟩, by simp [intOf]; omega⟩
                · have e2 : decide (x < u.2) = false := by rw [decide_eq_false_iff_not]; omega
                  have HSU := hid (HT2.out.trans (if_neg (fun h => h.elim h1 h2)))
                  clear HT2
                  go_wp2_with fail
                  exact ⟨⟨i + 1, by omega, by go_num, by rw [HSU.out], by rw [HSU.out], B8.out⟩, by simp [intOf]; omega⟩
          · obtain rfl : i = xs.length := by omega
            have hd2 : decide ((xs.length : Int) < (xs.length : Int)) = false := by rw [decide_eq_false_iff_not]; omega
            have HOT := hid (show ordT xs (m + 1) = ordT xs m ++ [(turnB (costS xs (ordT xs m)) (hasO (ordT xs m)) xs.length).1] from rfl)
            have HPT := hid (show peakT xs (m + 1) = max (peakT xs m) (turnB (costS xs (ordT xs m)) (hasO (ordT xs m)) xs.length).2 from rfl)
            generalize (turnB (costS xs (ordT xs m)) (hasO (ordT xs m)) xs.length) = u at *
            generalize peakT xs m = pk at *
            have O2 := hid (own_step Ho.out hbl2)
            have hzb : w1.heap.size ≤ wr.heap.size := by omega
            clear hbl2 hsr2
            go_wp2_with (at_builtin; refine app_one (w := wr) 26 2 (.int .i64 0) 1 8 Tryz.underlying26 (by kernel_rfl) rfl (by decide) w1.heap.size _ m _ O2.out ?d1 (by decide) hzb [.int .i64 u.1] _ _ rfl rfl rfl _ rfl ?d3 rfl (by intro u hu; simp at hu; rcases hu with rfl; rfl) ?_)
            case d1 => omega
            case d3 => rfl
            intro A5 c5 w5 own5 hb5 hg5 hat5
            have HB5 := hid ((below_of HBL.out hz HB2.out).trans hb5)
            have HO5 := hid own5
            clear own5 hb5 hg5 hat5
            go_wp2_with fail
            refine ⟨⟨m + 1, A5, c5, by omega, by go_num, rfl, ?_, ?_, HB5.out⟩, by simp [intOf]; omega⟩
            · rw [HPT.out]
            · rw [HOT.out, flat_one]
              exact HO5.out
      · obtain rfl : m = xs.length := by omega
        have hd : decide ((xs.length : Int) < (xs.length : Int)) = false := by rw [decide_eq_false_iff_not]; omega
        clear own hbl hbd1 hsl1 hsr
        go_wp2_with fail
        refine bodyPost_ret (v := .tuple #[.slice A xs.length cc, .int .i64 (peakT xs xs.length), .int .i64 0]) (by simp [results, Tryz.results23, go_sem]) rfl ?_
        rw [HG.out]
        refine ⟨A, cc, by rw [hol], below_of HB0.out hz0 HBW.out, ?_⟩
        rw [hol]
        exact own_low Ho.out (by omega)
  · have HG := hid (show SafeOrderG wi hi xs = ([], 0, v) by unfold SafeOrderG; rw [hv, if_neg hv0])
    have hne : (v != 0) = true := by simpa using hv0
    clear B0 hbd h hv hv0
    go_enter Tryz.func23, Tryz.ntmps23
    go_upto_region 1 with fail
    rw [← hW0]
    clear hW0
    go_wp2_with fail
    refine HAs.out.mono ?_
    rintro e w1 ⟨rfl, hb1⟩
    have HB1 := hid (below_of HB0.out HB0.out.size hb1)
    clear hb1
    go_wp2_with fail
    refine bodyPost_ret (v := .tuple #[.slice none 0 0, .int .i64 0, .int .i64 v]) (by simp [results, Tryz.results23, go_sem]) rfl ?_
    rw [HG.out]
    exact ⟨none, 0, rfl, HB1.out, World.ownsRow_nil _ _ _ _⟩
end Go.Proofs.YtmjlnhhgpdcobaaGreat
