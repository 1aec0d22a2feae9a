/-
  GapsByTurns, both the program's and the reference's.
  GapsByTurns, the program's.
  Conditions: the fields are in their kinds' ranges.
-/
import Derived.Test.YtmjlnhhgpdcobaaGreatTurns
import Derived.Test.YtmjlnhhgpdcobaaGreatSomeS
namespace Go.Proofs.YtmjlnhhgpdcobaaGreat
open Go.RowKit
set_option linter.unusedSimpArgs false
set_option linter.unusedVariables false

theorem gap_nil (n : Nat) : GapOk n [] := ⟨List.Pairwise.nil, fun g hg => absurd hg List.not_mem_nil⟩
theorem has_not {gs : List Int} {i : Nat} (h : hasO gs i = false) : (i : Int) ∉ gs := fun hm => by
  unfold hasO at h
  rw [any_isN.2 hm] at h
  cases h
theorem own_some {w : World} {base n c : Nat} {e : TypeId} {size : Nat} {g : Nat} {xs : List Value} (h : w.ownsRow base e size (.slice (some ⟨g, 0, none⟩) n c) n xs) : g < w.heap.size ∧ base ≤ g := by
  rcases h.2 with ⟨h1, _⟩ | ⟨g2, cap, cur, h1, h2, h3, _⟩
  · cases h1
  · injection h1 with h4
    cases h4
    exact ⟨(Array.getElem?_eq_some_iff.1 h3).1, h2⟩
theorem contains_len2 (a : Option Addr) (c : Nat) (xs : List Int) (n : Int) (w : World) (h : SlA en1 1 w a xs) (m : Nat) (hm : m = xs.length) :
    Calls Tryz.prog 60 #[.slice a m c, .int .i64 n] w fun e w' => e = .returned (.bool (xs.any (isN n))) ∧ Below w.heap.size w w' := by
  subst hm
  exact contains_en1_I a c xs n w h
theorem has_len_S (a : Option Addr) (c : Nat) (xs : List Int) (n : Int) (w : World) (h : SlA en1 1 w a xs) (m : Nat) (hm : m = xs.length) :
    Calls Tryz.prog 54 #[.slice a m c, .int .i64 n] w fun e w' => e = .returned (.bool (xs.any (isN n))) ∧ Below w.heap.size w w' := by
  subst hm
  exact has_S a c xs n w h
theorem left_lenT_S (b : Nat) (wi hi : Int) (a : Option Addr) (c : Nat) (xs : List Pc) (a2 : Option Addr) (c2 : Nat) (gs : List Int) (w : World) (hB : BrdOk xs) (hn : xs.length ≤ 60) (hb : BdA w b wi hi a xs.length c) (h : SlA Pc.enc 5 w a xs) (h2 : SlA en1 1 w a2 gs) (m : Nat) (hm : m = gs.length) :
    Calls Tryz.prog 47 #[.pointer (some ⟨b, 0, none⟩), .slice a2 m c2] w fun e w' => e = .returned (.int .i64 (leftG xs gs)) ∧ Below w.heap.size w w' := by
  subst hm
  exact left_S b wi hi a c xs a2 c2 gs w hB hn hb h h2
theorem without_lenT_I (b : Nat) (wi hi : Int) (a : Option Addr) (c : Nat) (xs : List Pc) (a2 : Option Addr) (c2 : Nat) (gs : List Int) (w : World) (hs : xs.length ≤ 1048576) (hb : BdA w b wi hi a xs.length c) (h : SlA Pc.enc 5 w a xs) (h2 : SlA en1 1 w a2 gs) (m : Nat) (hm : m = gs.length) :
    Calls Tryz.prog 51 #[.pointer (some ⟨b, 0, none⟩), .slice a2 m c2] w (ResBd w wi hi (keepL gs 0 xs)) := by
  subst hm
  exact without_I b wi hi a c xs a2 c2 gs w hs hb h h2
/-- The best list up to now: none, or one with the further number. -/
def BestV (b0 : Nat) (w : World) (k : Nat) (gs : List Int) (j : Int) (v : Value) : Prop := (j = -1 ∧ v = .slice none 0 0) ∨ ∃ i g c : Nat, j = (i : Int) ∧ v = .slice (some ⟨g, 0, none⟩) k c ∧ w.ownsRow b0 2 1 v k ((insN gs (i : Int)).flatMap en1)
theorem BestV.below {b0 k : Nat} {w w1 : World} {gs : List Int} {j : Int} {v : Value} (h : BestV b0 w k gs j v) (hb : Below w.heap.size w w1) (_ : b0 ≤ w.heap.size) : BestV b0 w1 k gs j v := by
  rcases h with h | ⟨i, g, c, h1, h2, h3⟩
  · exact .inl h
  · exact .inr ⟨i, g, c, h1, h2, own_step h3 hb⟩
set_option maxRecDepth 100000 in
set_option maxHeartbeats 8000000 in
theorem GapsByTurns_S (w : World) (wi hi : Int) (wl : -128 ≤ wi) (wu : wi ≤ 127) (hl : -128 ≤ hi) (hu : hi ≤ 127) (a : Option Addr) (c : Nat) (xs : List Pc) (h : SlA Pc.enc 5 w a xs) (_ : a = none → c = 0) (ok : ∀ p ∈ xs, p.Ok) (hs : xs.length ≤ 1048576) (most : Int) (ml : -9223372036854775808 ≤ most) (mu : most ≤ 9223372036854775807) :
    Calls Tryz.prog 29 #[.agg #[.int .i8 wi, .int .i8 hi, .slice a xs.length c], .int .i64 most] w (ResS en1 1 2 w (GapsByTurnsG wi hi xs most).1 (GapsByTurnsG wi hi xs most).2) := by
  obtain ⟨W0, hW0⟩ : ∃ W, W = w.alloc (.cells #[.int .i8 wi, .int .i8 hi, .slice a xs.length c] 32) := ⟨_, rfl⟩
  have B0 : Below w.heap.size w W0 := by rw [hW0]; exact (Below.refl _ _).alloc (Nat.le_refl _) _
  have hbd : BdA W0 w.heap.size wi hi a xs.length c := by rw [hW0]; exact bd_box _ _ _ _ _ _ _
  have HAs := hid (asked7_S w.heap.size wi hi a c xs W0 ⟨wl, wu, hl, hu⟩ hbd (h.below B0) ok)
  have HB0 := hid B0
  have HBD := hid (fun W (hb : Below W0.heap.size W0 W) => (⟨hbd.below hb hbd.lt, (h.below B0).below hb⟩ : BdA W w.heap.size wi hi a xs.length c ∧ SlA Pc.enc 5 W a xs))
  obtain ⟨v, hv⟩ : ∃ v, builtG wi hi xs = v := ⟨_, rfl⟩
  rw [hv] at HAs
  by_cases hv0 : v = 0
  · subst hv0
    obtain ⟨hB, hn⟩ := built_zero hv
    by_cases hm0 : most < 0
    · have HG := hid (show GapsByTurnsG wi hi xs most = ([], 2) by unfold GapsByTurnsG; rw [if_pos hv, if_pos hm0])
      have hd0 : decide (most < 0) = true := decide_eq_true hm0
      clear B0 hbd h hv hm0
      go_enter Tryz.func29, Tryz.ntmps29
      go_wp2_with fail
      rw [← hW0]
      clear hW0
      refine HAs.out.mono ?_
      rintro e w1 ⟨rfl, hb1⟩
      have HB1 := hid (below_of HB0.out HB0.out.size hb1)
      clear hb1
      go_wp2_with fail
      refine bodyPost_ret (v := .tuple #[.slice (some ⟨w1.heap.size, 0, none⟩) 0 0, .int .i64 2]) (by simp [results, Tryz.results29, go_sem]) rfl ?_
      rw [HG.out]
      exact ⟨some ⟨w1.heap.size, 0, none⟩, 0, rfl, HB1.out.alloc HB1.out.size _, World.ownsRow_lit w1 #[] 0 HB1.out.size (by simp [maxLen]) (by simp)⟩
    · have HG := hid (show GapsByTurnsG wi hi xs most = (gapT xs (stT xs most xs.length 0), 0) by unfold GapsByTurnsG; rw [if_pos hv, if_neg hm0])
      have hd0 : decide (most < 0) = false := decide_eq_false hm0
      have HM0 := hid hm0
      clear B0 hbd h hv hm0
      go_enter Tryz.func29, Tryz.ntmps29
      go_wp2_with fail
      rw [← hW0]
      clear hW0
      refine HAs.out.mono ?_
      rintro e w1 ⟨rfl, hb1⟩
      have HB1 := hid hb1
      have hz0 := HB0.out.size
      have hz1 := hb1.size
      clear hb1
      go_wp2_with fail
      go_loopw [7, 8, 9, 10] (fun o b_ l_ i_ wr => ∃ (m g cc : Nat) (gs : List Int), gapT xs m = gs ∧ gs.length = m ∧ stT xs most (xs.length - m) m = stT xs most xs.length 0 ∧ GapOk xs.length gs ∧ o = .slice (some ⟨g, 0, none⟩) m cc ∧ wr.ownsRow w1.heap.size 2 1 (.slice (some ⟨g, 0, none⟩) m cc) m (gs.flatMap en1) ∧ Below w1.heap.size w1 wr) (fun o _ _ _ _ => xs.length - lenV o)
      case atStart => exact ⟨0, w1.heap.size, 0, [], rfl, rfl, rfl, gap_nil _, rfl, World.ownsRow_lit w1 #[] 0 (Nat.le_refl _) (by simp [maxLen]) (by simp), (Below.refl _ _).alloc (Nat.le_refl _) _⟩
      case round =>
        obtain ⟨m, g, cc, gs, hgT, hgl, hst, hok, rfl, own, hbl⟩ := hrel
        have Ho := hid own
        have HBL := hid hbl
        have hz := hbl.size
        have HBW := hid (below_of HB1.out hz1 hbl)
        have hmn : m ≤ xs.length := by have := hok.len; omega
        have hsr : SlA en1 1 wr (some ⟨g, 0, none⟩) gs := en1_row (c := cc) (by rw [hgl]; exact own)
        have HSR := hid hsr
        have HGT := hid hgT
        have HGL := hid hgl
        have HOK := hid hok
        have HST := hid hst
        have HLe := hid (left_lenT_S w.heap.size wi hi a c xs (some ⟨g, 0, none⟩) cc gs wr hB (by omega) (HBD.out wr HBW.out).1 (HBD.out wr HBW.out).2 hsr m hgl.symm)
        have HLf := hid (left_free (xs := xs) (gs := gs))
        have HGN := hid (fun (h : 0 < leftG xs gs) => gap_next (xs := xs) (gs := gs) hok h (costN xs gs))
        clear own hbl hsr hst hgT
        obtain ⟨L, hL⟩ : ∃ L, leftG xs gs = L := ⟨_, rfl⟩
        have HL := hid hL
        rw [hL] at HLe HGN HLf
        clear hL
        by_cases hlt : most < L
        · have hd : decide (most < L) = true := decide_eq_true hlt
          have HB := hid hB
          clear hgl hok
          go_wp2_with fail
          refine HLe.out.mono ?_
          rintro e V ⟨rfl, hbV⟩
          have BV := hid (below_of HBW.out HBW.out.size hbV)
          have HSV := hid (HSR.out.below hbV)
          have OV := hid (own_step Ho.out hbV)
          have BLV := hid (below_of HBL.out hz hbV)
          have hzV := hbV.size
          clear hbV
          go_wp2_with fail
          go_loopw [8, 9, 10] (fun bv lv iv wr => ∃ i : Nat, i ≤ xs.length ∧ iv = .int .i64 i ∧ bv = .int .i64 (turnB (costN xs gs) (hasO gs) i).1 ∧ lv = .int .i64 (turnB (costN xs gs) (hasO gs) i).2 ∧ Below V.heap.size V wr) (fun _ _ iv _ => xs.length - (intOf iv).toNat)
          case atStart => exact ⟨0, Nat.zero_le _, rfl, rfl, rfl, Below.refl _ _⟩
          case round =>
            obtain ⟨i, hi2, rfl, rfl, rfl, hbl2⟩ := hrel
            have HB2 := hid hbl2
            have hz2 := hbl2.size
            obtain ⟨hbd2, hsl2⟩ := HBD.out wr (below_of BV.out BV.out.size hbl2)
            have c2 := hbd2.c2
            have hsr2 := HSV.out.below hbl2
            by_cases hlt2 : i < xs.length
            · have hd2 : decide ((i : Int) < (xs.length : Int)) = true := by rw [decide_eq_true_iff]; omega
              have Hh := hid (has_len_S (some ⟨g, 0, none⟩) cc gs (i : Int) wr hsr2 m HGL.out.symm)
              rw [show gs.any (isN (i : Int)) = hasO gs i from rfl] at Hh
              have HT := hid (show turnB (costN xs gs) (hasO gs) (i + 1) = if hasO gs i = true then turnB (costN xs gs) (hasO gs) i else if (turnB (costN xs gs) (hasO gs) i).1 < 0 ∨ costN xs gs i < (turnB (costN xs gs) (hasO gs) i).2 then ((i : Int), costN xs gs i) else turnB (costN xs gs) (hasO gs) i from rfl)
              generalize hu : turnB (costN xs gs) (hasO gs) i = u at *
              clear hu
              cases hhas : hasO gs i with
              | true =>
                rw [hhas] at Hh HT
                have HT2 := hid (HT.out.trans (if_pos rfl))
                clear hhas HT hbl2 hsr2 hbd2 hsl2
                go_wp2_with fail
                refine Hh.out.mono ?_
                rintro e w3 ⟨rfl, hb3⟩
                have HB3 := hid (below_of HB2.out hz2 hb3)
                clear hb3
                go_wp2_with fail
                exact ⟨⟨i + 1, by omega, by go_num, by rw [HT2.out], by rw [HT2.out], HB3.out⟩, by simp [intOf]; omega⟩
              | false =>
                have hno := has_not hhas
                rw [hhas] at Hh HT
                have HT2 := hid (HT.out.trans (if_neg (by simp)))
                have HIL := hid (insN_len gs (i : Int))
                have HNO := hid hno
                have HCS := hid (show costN xs gs i = leftG xs (insN gs (i : Int)) from rfl)
                clear hhas HT hbl2 hbd2 hsl2 hsr2 hno
                go_wp2_with fail
                refine Hh.out.mono ?_
                rintro e w3 ⟨rfl, hb3⟩
                have HB3 := hid (below_of HB2.out hz2 hb3)
                have hz3 := HB3.out.size
                have HW3 := hid (with_S (some ⟨g, 0, none⟩) cc gs (i : Int) w3 (HSV.out.below HB3.out) HOK.out.1 HNO.out (by have := HGL.out; omega) m HGL.out.symm)
                clear hb3
                go_wp2_with fail
                refine HW3.out.mono ?_
                rintro e w4 ⟨g4, c4, rfl, hb4, own4⟩
                have HB4 := hid (below_of HB3.out hz3 hb4)
                have hz4 := HB4.out.size
                have HL4 := hid (left_lenT_S w.heap.size wi hi a c xs (some ⟨g4, 0, none⟩) c4 (insN gs (i : Int)) w4 HB.out (by omega) (HBD.out w4 (below_of BV.out BV.out.size HB4.out)).1 (HBD.out w4 (below_of BV.out BV.out.size HB4.out)).2 (en1_row (c := c4) (by rw [HIL.out, HGL.out]; exact own4)) (m + 1) (by rw [HIL.out, HGL.out]))
                clear hb4 own4
                rw [← HCS.out] at HL4
                go_wp2_with fail
                refine HL4.out.mono ?_
                rintro e w8 ⟨rfl, hb8⟩
                have B8 := hid (below_of HB4.out hz4 hb8)
                clear hb8
                generalize costN xs gs i = x at *
                by_cases h1 : u.1 < 0
                · have e1 : decide (u.1 < 0) = true := by rw [decide_eq_true_iff]; exact h1
                  have HSU := hid (HT2.out.trans (if_pos (.inl h1)))
                  clear HT2
                  go_wp2_with fail
                  exact ⟨⟨i + 1, by omega, by go_num, by rw [HSU.out], by rw [HSU.out], B8.out⟩, by simp [intOf]; omega⟩
                · have e1 : decide (u.1 < 0) = false := by rw [decide_eq_false_iff_not]; exact h1
                  by_cases h2 : x < u.2
                  · have e2 : decide (x < u.2) = true := by rw [decide_eq_true_iff]; exact h2
                    have HSU := hid (HT2.out.trans (if_pos (.inr h2)))
                    clear HT2
                    go_wp2_with fail
                    exact ⟨⟨i + 1, by omega, by go_num, by rw [HSU.out], by rw [HSU.out], B8.out⟩, by simp [intOf]; omega⟩
                  · have e2 : decide (x < u.2) = false := by rw [decide_eq_false_iff_not]; omega
                    have HSU := hid (HT2.out.trans (if_neg (fun h => h.elim h1 h2)))
                    clear HT2
                    go_wp2_with fail
                    exact ⟨⟨i + 1, by omega, by go_num, by rw [HSU.out], by rw [HSU.out], B8.out⟩, by simp [intOf]; omega⟩
            · obtain rfl : i = xs.length := by omega
              have hd2 : decide ((xs.length : Int) < (xs.length : Int)) = false := by rw [decide_eq_false_iff_not]; omega
              obtain ⟨j, hj, hjl, hjf, hjok⟩ := HGN.out (by have := HM0.out; omega)
              have HJ := hid hj
              have HJO := hid hjok
              have hnext : gapT xs (m + 1) = insN gs (j : Int) := by rw [← hj, ← HGT.out]; rfl
              have HNX := hid hnext
              have hst2 : stT xs most (xs.length - (m + 1)) (m + 1) = stT xs most xs.length 0 := by
                have := HOK.out.ins hjl hjf
                have h3 := this.len
                rw [insN_len, HGL.out] at h3
                have e : xs.length - m = xs.length - (m + 1) + 1 := by omega
                rw [← HST.out, e, stT_go (by rw [HGT.out, HL.out]; omega)]
              have h3 : m + 1 ≤ xs.length := by
                have h4 := hjok.len
                rw [insN_len, HGL.out] at h4
                exact h4
              have HST2 := hid hst2
              have HW3 := hid (with_S (some ⟨g, 0, none⟩) cc gs (j : Int) wr hsr2 HOK.out.1 (has_not hjf) (by have := HGL.out; omega) m HGL.out.symm)
              rw [hj]
              clear hbl2 hbd2 hsl2 hsr2 hj hjok hnext hst2 hjf
              go_wp2_with fail
              refine HW3.out.mono ?_
              rintro e w4 ⟨g4, c4, rfl, hb4, own4⟩
              have HB4 := hid (below_of BLV.out (by omega) (below_of HB2.out hz2 hb4))
              have HO4 := hid (own_low own4 (by have := HBL.out.size; omega : w1.heap.size ≤ wr.heap.size))
              clear hb4 own4
              go_wp2_with fail
              exact ⟨⟨m + 1, g4, c4, insN gs (j : Int), HNX.out, by rw [insN_len, HGL.out], HST2.out, HJO.out, rfl, HO4.out, HB4.out⟩, by simp [lenV]; omega⟩
        · have hd : decide (most < L) = false := decide_eq_false hlt
          clear hgl hok
          go_wp2_with fail
          refine HLe.out.mono ?_
          rintro e V ⟨rfl, hbV⟩
          have BV := hid (below_of HBW.out HBW.out.size hbV)
          have OV := hid (own_step Ho.out hbV)
          clear hbV
          go_wp2_with fail
          refine bodyPost_ret (v := .tuple #[.slice (some ⟨g, 0, none⟩) m cc, .int .i64 0]) (by simp [results, Tryz.results29, go_sem]) rfl ?_
          have hfin : gapT xs (stT xs most xs.length 0) = gs := by rw [← HST.out, stT_stop (by rw [HGT.out, HL.out]; omega), HGT.out]
          rw [HG.out, hfin]
          refine ⟨some ⟨g, 0, none⟩, cc, by rw [HGL.out], below_of HB0.out hz0 BV.out, ?_⟩
          rw [HGL.out]
          exact own_low OV.out (by omega)
  · have HG := hid (show GapsByTurnsG wi hi xs most = ([], v) by unfold GapsByTurnsG; rw [hv, if_neg hv0])
    have hne : (v != 0) = true := by simpa using hv0
    have heq : (v == 0) = false := by simpa using hv0
    clear B0 hbd h hv hv0
    go_enter Tryz.func29, Tryz.ntmps29
    go_wp2_with fail
    rw [← hW0]
    clear hW0
    refine HAs.out.mono ?_
    rintro e w1 ⟨rfl, hb1⟩
    have HB1 := hid (below_of HB0.out HB0.out.size hb1)
    clear hb1
    go_wp2_with fail
    refine bodyPost_ret (v := .tuple #[.slice (some ⟨w1.heap.size, 0, none⟩) 0 0, .int .i64 v]) (by simp [results, Tryz.results29, go_sem]) rfl ?_
    rw [HG.out]
    exact ⟨some ⟨w1.heap.size, 0, none⟩, 0, rfl, HB1.out.alloc HB1.out.size _, World.ownsRow_lit w1 #[] 0 HB1.out.size (by simp [maxLen]) (by simp)⟩
set_option maxRecDepth 100000 in
set_option maxHeartbeats 8000000 in
theorem GapsByTurns_I (w : World) (wi hi : Int) (wl : -128 ≤ wi) (wu : wi ≤ 127) (hl : -128 ≤ hi) (hu : hi ≤ 127) (a : Option Addr) (c : Nat) (xs : List Pc) (h : SlA Pc.enc 5 w a xs) (_ : a = none → c = 0) (ok : ∀ p ∈ xs, p.Ok) (hs : xs.length ≤ 1048576) (most : Int) (ml : -9223372036854775808 ≤ most) (mu : most ≤ 9223372036854775807) :
    Calls Tryz.prog 30 #[.agg #[.int .i8 wi, .int .i8 hi, .slice a xs.length c], .int .i64 most] w (ResS en1 1 2 w (GapsByTurnsG wi hi xs most).1 (GapsByTurnsG wi hi xs most).2) := by
  obtain ⟨W0, hW0⟩ : ∃ W, W = w.alloc (.cells #[.int .i8 wi, .int .i8 hi, .slice a xs.length c] 32) := ⟨_, rfl⟩
  have B0 : Below w.heap.size w W0 := by rw [hW0]; exact (Below.refl _ _).alloc (Nat.le_refl _) _
  have hbd : BdA W0 w.heap.size wi hi a xs.length c := by rw [hW0]; exact bd_box _ _ _ _ _ _ _
  have d0 : W0.cell? ⟨w.heap.size, 0, none⟩ = some (.int .i8 wi) := hbd.c0
  have d1 : W0.cell? ⟨w.heap.size, 1, none⟩ = some (.int .i8 hi) := hbd.c1
  have d2 : W0.cell? ⟨w.heap.size, 2, none⟩ = some (.slice a xs.length c) := hbd.c2
  have HAs := hid (builtOk_I wi hi a c xs W0 ⟨wl, wu, hl, hu⟩ (h.below B0) ok)
  have HB0 := hid B0
  have HBD := hid (fun W (hb : Below W0.heap.size W0 W) => (⟨hbd.below hb hbd.lt, (h.below B0).below hb⟩ : BdA W w.heap.size wi hi a xs.length c ∧ SlA Pc.enc 5 W a xs))
  obtain ⟨v, hv⟩ : ∃ v, builtG wi hi xs = v := ⟨_, rfl⟩
  rw [hv] at HAs
  by_cases hv0 : v = 0
  · subst hv0
    obtain ⟨hB, hn⟩ := built_zero hv
    by_cases hm0 : most < 0
    · have HG := hid (show GapsByTurnsG wi hi xs most = ([], 2) by unfold GapsByTurnsG; rw [if_pos hv, if_pos hm0])
      have hd0 : decide (most < 0) = true := decide_eq_true hm0
      clear B0 hbd h hv hm0
      go_enter Tryz.func30, Tryz.ntmps30
      go_upto_region 1 with fail
      rw [← hW0]
      clear hW0
      go_wp2_with fail
      refine HAs.out.mono ?_
      rintro e w1 ⟨rfl, hb1⟩
      have HB1 := hid (below_of HB0.out HB0.out.size hb1)
      clear hb1
      go_wp2_with fail
      refine bodyPost_ret (v := .tuple #[.slice none 0 0, .int .i64 2]) (by simp [results, Tryz.results30, go_sem]) rfl ?_
      rw [HG.out]
      exact ⟨none, 0, rfl, HB1.out, World.ownsRow_nil _ _ _ _⟩
    · have HG := hid (show GapsByTurnsG wi hi xs most = (gapT xs (stT xs most xs.length 0), 0) by unfold GapsByTurnsG; rw [if_pos hv, if_neg hm0])
      have hd0 : decide (most < 0) = false := decide_eq_false hm0
      have HM0 := hid hm0
      clear B0 hbd h hv hm0
      go_enter Tryz.func30, Tryz.ntmps30
      go_upto_region 1 with fail
      rw [← hW0]
      clear hW0
      go_wp2_with fail
      refine HAs.out.mono ?_
      rintro e w1 ⟨rfl, hb1⟩
      have HB1 := hid hb1
      have hz0 := HB0.out.size
      have hz1 := hb1.size
      clear hb1 d0 d1 d2
      go_wp2_with fail
      go_loopw [7] (fun o wr => ∃ (m g cc : Nat) (gs : List Int), gapT xs m = gs ∧ gs.length = m ∧ stT xs most (xs.length - m) m = stT xs most xs.length 0 ∧ GapOk xs.length gs ∧ o = .slice (some ⟨g, 0, none⟩) m cc ∧ wr.ownsRow w1.heap.size 2 1 (.slice (some ⟨g, 0, none⟩) m cc) m (gs.flatMap en1) ∧ Below w1.heap.size w1 wr) (fun o _ => xs.length - lenV o)
      case atStart => exact ⟨0, w1.heap.size, 0, [], rfl, rfl, rfl, gap_nil _, rfl, World.ownsRow_lit w1 #[] 0 (Nat.le_refl _) (by simp [maxLen]) (by simp), (Below.refl _ _).alloc (Nat.le_refl _) _⟩
      case round =>
        obtain ⟨m, g, cc, gs, hgT, hgl, hst, hok, rfl, own, hbl⟩ := hrel
        have Ho := hid own
        have HBL := hid hbl
        have hz := hbl.size
        have HBW := hid (below_of HB1.out hz1 hbl)
        have hmn : m ≤ xs.length := by have := hok.len; omega
        have hsr : SlA en1 1 wr (some ⟨g, 0, none⟩) gs := en1_row (c := cc) (by rw [hgl]; exact own)
        have HSR := hid hsr
        have HGT := hid hgT
        have HGL := hid hgl
        have HOK := hid hok
        have HST := hid hst
        have HWo := hid (without_lenT_I w.heap.size wi hi a c xs (some ⟨g, 0, none⟩) cc gs wr hs (HBD.out wr HBW.out).1 (HBD.out wr HBW.out).2 hsr m hgl.symm)
        have HLf := hid (left_free (xs := xs) (gs := gs))
        have HGN := hid (fun (h : 0 < leftG xs gs) => gap_next (xs := xs) (gs := gs) hok h (costN xs gs))
        have HK := hid (hB.part (keep_sub gs xs 0))
        have HLd := hid (show leftG xs gs = costW (keepL gs 0 xs) from rfl)
        clear own hbl hsr hst hgT
        obtain ⟨L, hL⟩ : ∃ L, leftG xs gs = L := ⟨_, rfl⟩
        have HL := hid hL
        rw [hL] at HGN HLf HLd
        clear hL
        have HB := hid hB
        by_cases hlt : most < L
        · have hd : decide (most < L) = true := decide_eq_true hlt
          clear hgl hok
          generalize keepL gs 0 xs = ks at *
          go_wp2_with fail
          refine HWo.out.mono ?_
          rintro e V0 ⟨A0, k0, rfl, hbV0, own0⟩
          have HC0 := hid (worstOf_I wi hi A0 k0 ks V0 HK.out (SlA.of_own Pc.enc_length own0))
          have BV0 := hid hbV0
          have hzV0 := hbV0.size
          clear own0 hbV0
          go_wp2_with fail
          refine HC0.out.mono ?_
          rintro e V ⟨rfl, hbV1⟩
          have hbV := below_of BV0.out hzV0 hbV1
          rw [← HLd.out]
          have BV := hid (below_of HBW.out HBW.out.size hbV)
          have HSV := hid (HSR.out.below hbV)
          have OV := hid (own_step Ho.out hbV)
          have BLV := hid (below_of HBL.out hz hbV)
          have hzV := hbV.size
          have c2V := (HBD.out V BV.out).1.c2
          clear hbV hbV1
          go_wp2_with fail
          clear c2V
          go_loopw [8, 9, 29] (fun bv lv iv wr => ∃ i : Nat, i ≤ xs.length ∧ iv = .int .i64 i ∧ BestV V.heap.size wr (m + 1) gs (turnB (costN xs gs) (hasO gs) i).1 bv ∧ lv = .int .i64 (turnB (costN xs gs) (hasO gs) i).2 ∧ Below V.heap.size V wr) (fun _ _ iv _ => xs.length - (intOf iv).toNat)
          case atStart => exact ⟨0, Nat.zero_le _, rfl, .inl ⟨rfl, rfl⟩, rfl, Below.refl _ _⟩
          case round =>
            obtain ⟨i, hi2, rfl, hbest, rfl, hbl2⟩ := hrel
            have HB2 := hid hbl2
            have hz2 := hbl2.size
            have hsr2 := HSV.out.below hbl2
            have HBE := hid hbest
            clear hbest
            by_cases hlt2 : i < xs.length
            · have hd2 : decide ((i : Int) < (xs.length : Int)) = true := by rw [decide_eq_true_iff]; omega
              have Hh := hid (contains_len2 (some ⟨g, 0, none⟩) cc gs (i : Int) wr hsr2 m HGL.out.symm)
              rw [show gs.any (isN (i : Int)) = hasO gs i from rfl] at Hh
              have HT := hid (show turnB (costN xs gs) (hasO gs) (i + 1) = if hasO gs i = true then turnB (costN xs gs) (hasO gs) i else if (turnB (costN xs gs) (hasO gs) i).1 < 0 ∨ costN xs gs i < (turnB (costN xs gs) (hasO gs) i).2 then ((i : Int), costN xs gs i) else turnB (costN xs gs) (hasO gs) i from rfl)
              generalize hu : turnB (costN xs gs) (hasO gs) i = u at *
              clear hu
              cases hhas : hasO gs i with
              | true =>
                rw [hhas] at Hh HT
                have HT2 := hid (HT.out.trans (if_pos rfl))
                clear hhas HT hbl2 hsr2
                go_wp2_with fail
                refine Hh.out.mono ?_
                rintro e w3 ⟨rfl, hb3⟩
                have HB3 := hid (below_of HB2.out hz2 hb3)
                have BE3 := hid (HBE.out.below hb3 hz2)
                clear hb3
                go_wp2_with fail
                exact ⟨⟨i + 1, by omega, by go_num, by rw [HT2.out]; exact BE3.out, by rw [HT2.out], HB3.out⟩, by simp [intOf]; omega⟩
              | false =>
                have hno := has_not hhas
                rw [hhas] at Hh HT
                have HT2 := hid (HT.out.trans (if_neg (by simp)))
                have HIL := hid (insN_len gs (i : Int))
                have HNO := hid hno
                have HCS := hid (show costN xs gs i = costW (keepL (insN gs (i : Int)) 0 xs) from rfl)
                have HK2 := hid (HB.out.part (keep_sub (insN gs (i : Int)) xs 0))
                clear hhas HT hbl2 hsr2 hno
                go_wp2_with fail
                refine Hh.out.mono ?_
                rintro e w3 ⟨rfl, hb3⟩
                have HB3 := hid (below_of HB2.out hz2 hb3)
                have BE3 := hid (HBE.out.below hb3 hz2)
                have hz3 := HB3.out.size
                have HW3 := hid (withGap_I g 0 cc gs (i : Int) w3 (HSV.out.below HB3.out) HOK.out.1 (by have := HGL.out; omega) m HGL.out.symm)
                clear hb3
                go_wp2_with fail
                refine HW3.out.mono ?_
                rintro e w4 ⟨g4, c4, rfl, hb4, own4⟩
                have HB4 := hid (below_of HB3.out hz3 hb4)
                have BE4 := hid (BE3.out.below hb4 hz3)
                have hz4 := HB4.out.size
                have HWo4 := hid (without_lenT_I w.heap.size wi hi a c xs (some ⟨g4, 0, none⟩) c4 (insN gs (i : Int)) w4 hs (HBD.out w4 (below_of BV.out BV.out.size HB4.out)).1 (HBD.out w4 (below_of BV.out BV.out.size HB4.out)).2 (en1_row (c := c4) (by rw [HIL.out, HGL.out]; exact own4)) (m + 1) (by rw [HIL.out, HGL.out]))
                have HN4 := hid (own_low own4 hz3)
                clear hb4 own4
                generalize keepL (insN gs (i : Int)) 0 xs = ks2 at *
                go_wp2_with fail
                refine HWo4.out.mono ?_
                rintro e w5 ⟨A5, c5, rfl, hb5, own5⟩
                have HC5 := hid (worstOf_I wi hi A5 c5 ks2 w5 HK2.out (SlA.of_own Pc.enc_length own5))
                have HB5 := hid (below_of HB4.out hz4 hb5)
                have BE5 := hid (BE4.out.below hb5 hz4)
                have HN5 := hid (own_step HN4.out hb5)
                have hz5 := HB5.out.size
                clear hb5 own5
                go_wp2_with fail
                refine HC5.out.mono ?_
                rintro e w8 ⟨rfl, hb8⟩
                have B8 := hid (below_of HB5.out hz5 hb8)
                have BE8 := hid (BE5.out.below hb8 hz5)
                have HN8 := hid (own_step HN5.out hb8)
                clear hb8
                rw [← HCS.out]
                generalize costN xs gs i = x at *
                rcases BE8.out with ⟨h1, rfl⟩ | ⟨j, gb, cb, h1, rfl, howb⟩
                · have q41 : ∀ (w : World) (a : Option Addr) (n c n' c' : Nat), (binOp .eql 26 (.slice a n c) (.slice none n' c')).run Tryz.prog w = .ok (.bool a.isNone) w := fun w a n c n' c' => Lib.run_eql_slice_nil w _ _ a n c n' c' Tryz.underlying26
                  have HSU := hid (HT2.out.trans (if_pos (.inl (by omega))))
                  clear HT2 h1
                  go_wp2_with fail
                  exact ⟨⟨i + 1, by omega, by go_num, by rw [HSU.out]; exact .inr ⟨i, g4, c4, rfl, rfl, HN8.out⟩, by rw [HSU.out], B8.out⟩, by simp [intOf]; omega⟩
                · have q41 : ∀ (w : World) (a : Option Addr) (n c n' c' : Nat), (binOp .eql 26 (.slice a n c) (.slice none n' c')).run Tryz.prog w = .ok (.bool a.isNone) w := fun w a n c n' c' => Lib.run_eql_slice_nil w _ _ a n c n' c' Tryz.underlying26
                  have HOB := hid howb
                  have HU1 := hid h1
                  clear howb h1
                  by_cases h2 : x < u.2
                  · have e2 : decide (x < u.2) = true := by rw [decide_eq_true_iff]; exact h2
                    have HSU := hid (HT2.out.trans (if_pos (.inr h2)))
                    clear HT2
                    go_wp2_with fail
                    exact ⟨⟨i + 1, by omega, by go_num, by rw [HSU.out]; exact .inr ⟨i, g4, c4, rfl, rfl, HN8.out⟩, by rw [HSU.out], B8.out⟩, by simp [intOf]; omega⟩
                  · have e2 : decide (x < u.2) = false := by rw [decide_eq_false_iff_not]; omega
                    have HSU := hid (HT2.out.trans (if_neg (fun h => h.elim (fun h => by have := HU1.out; omega) h2)))
                    clear HT2
                    go_wp2_with fail
                    exact ⟨⟨i + 1, by omega, by go_num, by rw [HSU.out]; exact .inr ⟨j, gb, cb, HU1.out, rfl, HOB.out⟩, by rw [HSU.out], B8.out⟩, by simp [intOf]; omega⟩
            · obtain rfl : i = xs.length := by omega
              have hd2 : decide ((xs.length : Int) < (xs.length : Int)) = false := by rw [decide_eq_false_iff_not]; omega
              obtain ⟨j, hj, hjl, hjf, hjok⟩ := HGN.out (by have := HM0.out; omega)
              rcases HBE.out with ⟨h1, rfl⟩ | ⟨j2, gb, cb, h1, rfl, howb⟩
              · exact absurd (hj.symm.trans h1) (by omega)
              · have hjj : j2 = j := by have := hj.symm.trans h1; omega
                subst hjj
                have HJO := hid hjok
                have hnext : gapT xs (m + 1) = insN gs (j2 : Int) := by rw [← hj, ← HGT.out]; rfl
                have HNX := hid hnext
                have hst2 : stT xs most (xs.length - (m + 1)) (m + 1) = stT xs most xs.length 0 := by
                  have := HOK.out.ins hjl hjf
                  have h3 := this.len
                  rw [insN_len, HGL.out] at h3
                  have e : xs.length - m = xs.length - (m + 1) + 1 := by omega
                  rw [← HST.out, e, stT_go (by rw [HGT.out, HL.out]; omega)]
                have h3 : m + 1 ≤ xs.length := by
                  have h4 := hjok.len
                  rw [insN_len, HGL.out] at h4
                  exact h4
                have HST2 := hid hst2
                have HB4 := hid (below_of BLV.out (by omega) HB2.out)
                have HO4 := hid (own_low howb (by have := HBL.out.size; omega : w1.heap.size ≤ V.heap.size))
                clear hbl2 hsr2 hj hjok hnext hst2 hjf h1 howb
                go_wp2_with fail
                exact ⟨⟨m + 1, gb, cb, insN gs (j2 : Int), HNX.out, by rw [insN_len, HGL.out], HST2.out, HJO.out, rfl, HO4.out, HB4.out⟩, by simp [lenV]; omega⟩
        · have hd : decide (most < L) = false := decide_eq_false hlt
          clear hgl hok
          generalize keepL gs 0 xs = ks at *
          go_wp2_with fail
          refine HWo.out.mono ?_
          rintro e V0 ⟨A0, k0, rfl, hbV0, own0⟩
          have HC0 := hid (worstOf_I wi hi A0 k0 ks V0 HK.out (SlA.of_own Pc.enc_length own0))
          have BV0 := hid hbV0
          have hzV0 := hbV0.size
          clear own0 hbV0
          go_wp2_with fail
          refine HC0.out.mono ?_
          rintro e V ⟨rfl, hbV1⟩
          have hbV := below_of BV0.out hzV0 hbV1
          rw [← HLd.out]
          have BV := hid (below_of HBW.out HBW.out.size hbV)
          have OV := hid (own_step Ho.out hbV)
          clear hbV hbV1
          go_wp2_with fail
          refine bodyPost_ret (v := .tuple #[.slice (some ⟨g, 0, none⟩) m cc, .int .i64 0]) (by simp [results, Tryz.results30, go_sem]) rfl ?_
          have hfin : gapT xs (stT xs most xs.length 0) = gs := by rw [← HST.out, stT_stop (by rw [HGT.out, HL.out]; omega), HGT.out]
          rw [HG.out, hfin]
          refine ⟨some ⟨g, 0, none⟩, cc, by rw [HGL.out], below_of HB0.out hz0 BV.out, ?_⟩
          rw [HGL.out]
          exact own_low OV.out (by omega)
  · have HG := hid (show GapsByTurnsG wi hi xs most = ([], v) by unfold GapsByTurnsG; rw [hv, if_neg hv0])
    have hne : (v != 0) = true := by simpa using hv0
    have heq : (v == 0) = false := by simpa using hv0
    clear B0 hbd h hv hv0
    go_enter Tryz.func30, Tryz.ntmps30
    go_upto_region 1 with fail
    rw [← hW0]
    clear hW0
    go_wp2_with fail
    refine HAs.out.mono ?_
    rintro e w1 ⟨rfl, hb1⟩
    have HB1 := hid (below_of HB0.out HB0.out.size hb1)
    clear hb1
    go_wp2_with fail
    refine bodyPost_ret (v := .tuple #[.slice none 0 0, .int .i64 v]) (by simp [results, Tryz.results30, go_sem]) rfl ?_
    rw [HG.out]
    exact ⟨none, 0, rfl, HB1.out, World.ownsRow_nil _ _ _ _⟩
end Go.Proofs.YtmjlnhhgpdcobaaGreat
