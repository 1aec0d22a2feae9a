/-
  Gaps: which are right for a board; both the program's and the reference's.
  Conditions: the fields are in their kinds' ranges.
-/
import Derived.Test.YthhfndifcdiomaaGreatGaps
namespace Go.Proofs.YthhfndifcdiomaaGreat
open Go.RowKit
set_option linter.unusedSimpArgs false
set_option linter.unusedVariables false

set_option maxRecDepth 100000 in
set_option maxHeartbeats 400000 in
theorem gaps_S (b : Nat) (wi hi : Int) (a : Option Addr) (n c : Nat) (a2 : Option Addr) (c2 : Nat) (gs : List Int) (w : World) (hn : n ≤ 1048576) (hb : BdA w b wi hi a n c) (h : SlA en1 1 w a2 gs) (ok : ∀ p ∈ gs, -9223372036854775808 ≤ p ∧ p ≤ 9223372036854775807) :
    Calls Tryz.prog 78 #[.pointer (some ⟨b, 0, none⟩), .slice a2 gs.length c2] w fun e w' => e = .returned (.bool (gapsB n gs)) ∧ Below w.heap.size w w' := by
  have sa := h.small
  have hbd := hb
  obtain ⟨g9, g0, g1, g2⟩ := hb
  go_enter Tryz.func78, Tryz.ntmps78
  go_wp2_with fail
  go_loopw [5] (fun i wr => ∃ k : Nat, k ≤ gs.length ∧ i = .int .i64 k ∧ (∀ j, j < k → gapAt n gs j = true) ∧ Below w.heap.size w wr) (fun i _ => gs.length - (intOf i).toNat)
  case atStart => exact ⟨0, Nat.zero_le _, rfl, fun j hj => by omega, Below.refl _ _⟩
  case round =>
    obtain ⟨k, hk, rfl, ht, hbl⟩ := hrel
    have HT := hid ht
    clear ht
    by_cases hlt : k < gs.length
    · have k2 : wr.cell? ⟨b, 2, none⟩ = some (.slice a n c) := (hbl.cell (p := ⟨b, _, none⟩) g9).trans g2
      obtain ⟨b1, o1, rfl, hb1, hc1⟩ := en1_cells (h.below hbl) (by omega)
      have e1 : gs[k]? = some gs[k] := List.getElem?_eq_getElem hlt
      have okp := ok _ (List.getElem_mem hlt)
      have Hp := hid e1
      clear e1
      generalize gs[k] = p at *
      obtain ⟨p0, p1⟩ := okp
      have f0 : wr.cell? ⟨b1, o1 + k, none⟩ = some (.int .i64 p) := hc1 k _ Hp.out
      have hz := hbl.size
      have hbw' : b < wr.heap.size := by omega
      have Hin := hid (fun W => in_S p 0 ((n : Int) - 1) W)
      obtain ⟨d1, hd1⟩ : ∃ d1 : Bool, inB p 0 ((n : Int) - 1) = d1 := ⟨_, rfl⟩
      rw [hd1] at Hin
      have hwn : IntKind.i64.wrap ((n : Int) - 1) = (n : Int) - 1 := IntWalk.i64_in _ (by omega)
      rcases Nat.eq_zero_or_pos k with h0 | h0
      · have HO := hid (show gapAt n gs k = d1 by unfold gapAt; rw [Hp.out, h0]; simp [hd1])
        have hkz : (k : Int) = 0 := by omega
        have f0' : wr.cell? ⟨b1, o1, none⟩ = some (.int .i64 p) := by rw [h0] at f0; simpa using f0
        have hd0 : decide ((k : Int) > 0) = false := by rw [decide_eq_false_iff_not]; omega
        clear hd1 hc1
        have hL := @later_cell wr
        cases d1
        · have HB := hid (gapsB_false hlt HO.out).symm
          go_wp2_with fail
          refine wp_region_later (by kernel_rfl) (by kernel_rfl) ?_
          repeat (first | go_big_quiet_skip | (go_big_quiet_want; go_big_quiet_op; first | go_big_quiet_on | (apply Exists.intro; refine ⟨fun _ => ?_, ?_⟩; (go_at_call 51; exact quiet_same (Hin.out _)); go_big_quiet_on)))
          refine wpQuiet_nil ?_
          intro x
          go_wp2_with fail
          go_ret
          exact ⟨ret_bool HB.out, below_of hbl hz x.below⟩
        · go_wp2_with fail
          refine wp_region_later (by kernel_rfl) (by kernel_rfl) ?_
          repeat (first | go_big_quiet_skip | (go_big_quiet_want; go_big_quiet_op; first | go_big_quiet_on | (apply Exists.intro; refine ⟨fun _ => ?_, ?_⟩; (go_at_call 51; exact quiet_same (Hin.out _)); go_big_quiet_on)))
          refine wpQuiet_nil ?_
          intro x
          go_wp2_with fail
          exact ⟨⟨k + 1, by omega, by go_num, below_ok HT.out HO.out, below_of hbl hz x.below⟩, by simp [intOf]; omega⟩
      · obtain ⟨j, hj⟩ : ∃ j, k = j + 1 := ⟨k - 1, by omega⟩
        have hjl : j < gs.length := by omega
        have e2 : gs[j]? = some gs[j] := List.getElem?_eq_getElem hjl
        have e3 : gs.getD j 0 = gs[j] := by rw [List.getD_eq_getElem?_getD, e2]; rfl
        have f1 : wr.cell? ⟨b1, o1 + j, none⟩ = some (.int .i64 gs[j]) := hc1 j _ e2
        obtain ⟨d2, hd2⟩ : ∃ d2 : Bool, decide (gs[j] < p) = d2 := ⟨_, rfl⟩
        have HO := hid (show gapAt n gs k = (d1 && d2) by unfold gapAt; rw [Hp.out, hj]; simp only [hd1, e3, hd2])
        generalize gs[j] = q at *
        have hd3 : decide (p ≤ q) = !d2 := by rw [← hd2, ← decide_not, decide_eq_decide]; omega
        have hd0 : decide ((k : Int) > 0) = true := by rw [decide_eq_true_iff]; omega
        have hwk : IntKind.i64.wrap ((k : Int) - 1) = (k : Int) - 1 := IntWalk.i64_in _ (by omega)
        have ht1 : ((k : Int) - 1).toNat = j := by omega
        have hi0 : (0 : Int) ≤ (k : Int) - 1 := by omega
        have hi1 : (k : Int) - 1 < (gs.length : Int) := by omega
        clear hd1 hc1 hd2 e2 e3 hj
        have hL := @later_cell wr
        have hcs : d1 = false ∨ (d1 = true ∧ d2 = false) ∨ (d1 = true ∧ d2 = true) := by cases d1 <;> cases d2 <;> simp
        rcases hcs with rfl | ⟨rfl, rfl⟩ | ⟨rfl, rfl⟩
        · have HB := hid (gapsB_false hlt HO.out).symm
          go_wp2_with fail
          refine wp_region_later (by kernel_rfl) (by kernel_rfl) ?_
          repeat (first | go_big_quiet_skip | (go_big_quiet_want; go_big_quiet_op; first | go_big_quiet_on | (apply Exists.intro; refine ⟨fun _ => ?_, ?_⟩; (go_at_call 51; exact quiet_same (Hin.out _)); go_big_quiet_on)))
          refine wpQuiet_nil ?_
          intro x
          go_wp2_with fail
          go_ret
          exact ⟨ret_bool HB.out, below_of hbl hz x.below⟩
        · have HB := hid (gapsB_false hlt HO.out).symm
          simp only [Bool.not_false] at hd3
          go_wp2_with fail
          refine wp_region_later (by kernel_rfl) (by kernel_rfl) ?_
          repeat (first | go_big_quiet_skip | (go_big_quiet_want; go_big_quiet_op; first | go_big_quiet_on | (apply Exists.intro; refine ⟨fun _ => ?_, ?_⟩; (go_at_call 51; exact quiet_same (Hin.out _)); go_big_quiet_on)))
          refine wpQuiet_nil ?_
          intro x
          go_wp2_with fail
          go_ret
          exact ⟨ret_bool HB.out, below_of hbl hz x.below⟩
        · simp only [Bool.not_true] at hd3
          go_wp2_with fail
          refine wp_region_later (by kernel_rfl) (by kernel_rfl) ?_
          repeat (first | go_big_quiet_skip | (go_big_quiet_want; go_big_quiet_op; first | go_big_quiet_on | (apply Exists.intro; refine ⟨fun _ => ?_, ?_⟩; (go_at_call 51; exact quiet_same (Hin.out _)); go_big_quiet_on)))
          refine wpQuiet_nil ?_
          intro x
          go_wp2_with fail
          exact ⟨⟨k + 1, by omega, by go_num, below_ok HT.out HO.out, below_of hbl hz x.below⟩, by simp [intOf]; omega⟩
    · obtain rfl : k = gs.length := by omega
      have HB := hid (gapsB_true HT.out).symm
      go_wp2_with fail
      go_ret
      exact ⟨ret_bool HB.out, hbl⟩
theorem given_S (b : Nat) (wi hi : Int) (a : Option Addr) (c : Nat) (xs : List Pc) (a2 : Option Addr) (c2 : Nat) (gs : List Int) (w : World) (rw_ : -128 ≤ wi ∧ wi ≤ 127 ∧ -128 ≤ hi ∧ hi ≤ 127) (hs : xs.length ≤ 1048576) (hb : BdA w b wi hi a xs.length c) (h : SlA Pc.enc 5 w a xs) (ok : ∀ p ∈ xs, p.Ok) (h2 : SlA en1 1 w a2 gs) (ok2 : ∀ p ∈ gs, -9223372036854775808 ≤ p ∧ p ≤ 9223372036854775807) :
    Calls Tryz.prog 58 #[.pointer (some ⟨b, 0, none⟩), .slice a2 gs.length c2] w fun e w' => e = .returned (.int .i64 (gapsG wi hi xs gs)) ∧ Below w.heap.size w w' := by
  have Ha := hid (asked7_S b wi hi a c xs w rw_ hb h ok)
  have Hb := hid (fun W (hB : Below w.heap.size w W) => gaps_S b wi hi a xs.length c a2 c2 gs W hs (hb.below hB hb.lt) (h2.below hB) ok2)
  obtain ⟨v, hv⟩ : ∃ v, builtG wi hi xs = v := ⟨_, rfl⟩
  obtain ⟨d2, hd2⟩ : ∃ d2 : Bool, gapsB xs.length gs = d2 := ⟨_, rfl⟩
  rw [hv] at Ha
  rw [hd2] at Hb
  have HG := hid (show gapsG wi hi xs gs = if v ≠ 0 then v else if d2 = true then 0 else 2 by unfold gapsG; rw [hv, hd2])
  clear hv hd2
  by_cases hv0 : v = 0
  · subst hv0
    go_enter Tryz.func58, Tryz.ntmps58
    go_wp2_with fail
    refine Ha.out.mono ?_
    rintro e w1 ⟨rfl, hb1⟩
    go_wp2_with fail
    refine (Hb.out _ hb1).mono ?_
    rintro e w2 ⟨rfl, hb2⟩
    cases d2
    · go_wp2_with fail
      go_ret
      exact ⟨ret_int (by rw [HG.out]; simp), below_then hb1 hb2⟩
    · go_wp2_with fail
      go_ret
      exact ⟨ret_int (by rw [HG.out]; simp), below_then hb1 hb2⟩
  · have hne : (v != 0) = true := by simpa using hv0
    have Hv := hid hv0
    clear hv0
    go_enter Tryz.func58, Tryz.ntmps58
    go_wp2_with fail
    refine Ha.out.mono ?_
    rintro e w1 ⟨rfl, hb1⟩
    go_wp2_with fail
    go_ret
    exact ⟨ret_int (by rw [HG.out, if_pos Hv.out]), hb1⟩
set_option maxRecDepth 100000 in
set_option maxHeartbeats 400000 in
theorem gapsOk_I (wi hi : Int) (a : Option Addr) (c : Nat) (xs : List Pc) (a2 : Option Addr) (c2 : Nat) (gs : List Int) (w : World) (rw_ : -128 ≤ wi ∧ wi ≤ 127 ∧ -128 ≤ hi ∧ hi ≤ 127) (hs : xs.length ≤ 1048576) (h : SlA Pc.enc 5 w a xs) (ok : ∀ p ∈ xs, p.Ok) (h2 : SlA en1 1 w a2 gs) (ok2 : ∀ p ∈ gs, -9223372036854775808 ≤ p ∧ p ≤ 9223372036854775807) :
    Calls Tryz.prog 45 #[.agg #[.int .i8 wi, .int .i8 hi, .slice a xs.length c], .slice a2 gs.length c2] w fun e w' => e = .returned (.int .i64 (gapsG wi hi xs gs)) ∧ Below w.heap.size w w' := by
  have B0 : ∀ o, Below w.heap.size w (w.alloc o) := fun o => (Below.refl _ _).alloc (Nat.le_refl _) _
  have hbx : BdA (w.alloc (.cells #[.int .i8 wi, .int .i8 hi, .slice a xs.length c] 27)) w.heap.size wi hi a xs.length c := ⟨by simp, by simp [go_sem], by simp [go_sem], by simp [go_sem]⟩
  have Ha := hid (builtOk_I wi hi a c xs (w.alloc (.cells #[.int .i8 wi, .int .i8 hi, .slice a xs.length c] 27)) rw_ (h.below (B0 _)) ok)
  have HX := hid hbx
  have HB := hid (B0 (.cells #[.int .i8 wi, .int .i8 hi, .slice a xs.length c] 27))
  obtain ⟨v, hv⟩ : ∃ v, builtG wi hi xs = v := ⟨_, rfl⟩
  rw [hv] at Ha
  have HG := hid (show gapsG wi hi xs gs = if v ≠ 0 then v else if gapsB xs.length gs = true then 0 else 2 by unfold gapsG; rw [hv])
  have sa := h2.small
  clear hv hbx B0
  by_cases hv0 : v = 0
  · subst hv0
    go_enter Tryz.func45, Tryz.ntmps45
    go_wp2_with fail
    refine Ha.out.mono ?_
    rintro e w1 ⟨rfl, hb1⟩
    have B1 := hid (below_of HB.out (by simp) hb1)
    have HX1 := hid (HX.out.below hb1 (by simp))
    go_wp2_with fail
    go_loopw [15] (fun i wr => ∃ k : Nat, k ≤ gs.length ∧ i = .int .i64 k ∧ (∀ j, j < k → gapAt xs.length gs j = true) ∧ wr = w1) (fun i _ => gs.length - (intOf i).toNat)
    case atStart => exact ⟨0, Nat.zero_le _, rfl, fun j hj => by omega, rfl⟩
    case round =>
      obtain ⟨k, hk, rfl, ht, rfl⟩ := hrel
      have HT := hid ht
      clear ht
      by_cases hlt : k < gs.length
      · obtain ⟨b1, o1, rfl, hb1', hc1⟩ := en1_cells (h2.below B1.out) (by omega)
        have e1 : gs[k]? = some gs[k] := List.getElem?_eq_getElem hlt
        have okp := ok2 _ (List.getElem_mem hlt)
        have Hp := hid e1
        clear e1
        generalize gs[k] = p at *
        obtain ⟨p0, p1⟩ := okp
        have f0 : wr.cell? ⟨b1, o1 + k, none⟩ = some (.int .i64 p) := hc1 k _ Hp.out
        have Hin := hid (indexOk_I w.heap.size wi hi a xs.length c p wr (by omega) HX1.out)
        obtain ⟨d1, hd1⟩ : ∃ d1 : Bool, inB p 0 ((xs.length : Int) - 1) = d1 := ⟨_, rfl⟩
        rw [hd1] at Hin
        rcases Nat.eq_zero_or_pos k with h0 | h0
        · have HO := hid (show gapAt xs.length gs k = d1 by unfold gapAt; rw [Hp.out, h0]; simp [hd1])
          have hkz : (k : Int) = 0 := by omega
          have f0' : wr.cell? ⟨b1, o1, none⟩ = some (.int .i64 p) := by rw [h0] at f0; simpa using f0
          clear hd1 hc1
          cases d1
          · have HB2 := hid (gapsB_false hlt HO.out)
            go_wp2_with fail
            refine Hin.out.mono ?_
            rintro e w2 ⟨rfl, rfl⟩
            go_wp2_with fail
            go_ret
            exact ⟨ret_int (by rw [HG.out, HB2.out]; simp), B1.out⟩
          · go_wp2_with fail
            refine Hin.out.mono ?_
            rintro e w2 ⟨rfl, rfl⟩
            go_wp2_with fail
            exact ⟨⟨k + 1, by omega, by go_num, below_ok HT.out HO.out, by trivial⟩, by simp [intOf]; omega⟩
        · obtain ⟨j, hj⟩ : ∃ j, k = j + 1 := ⟨k - 1, by omega⟩
          have hjl : j < gs.length := by omega
          have e2 : gs[j]? = some gs[j] := List.getElem?_eq_getElem hjl
          have e3 : gs.getD j 0 = gs[j] := by rw [List.getD_eq_getElem?_getD, e2]; rfl
          have f1 : wr.cell? ⟨b1, o1 + j, none⟩ = some (.int .i64 gs[j]) := hc1 j _ e2
          obtain ⟨d2, hd2⟩ : ∃ d2 : Bool, decide (gs[j] < p) = d2 := ⟨_, rfl⟩
          have HO := hid (show gapAt xs.length gs k = (d1 && d2) by unfold gapAt; rw [Hp.out, hj]; simp only [hd1, e3, hd2])
          generalize gs[j] = q at *
          have hd3 : decide (p ≤ q) = !d2 := by rw [← hd2, ← decide_not, decide_eq_decide]; omega
          have ht1 : ((k : Int) - 1).toNat = j := by omega
          have hi0 : (0 : Int) ≤ (k : Int) - 1 := by omega
          have hi1 : (k : Int) - 1 < (gs.length : Int) := by omega
          clear hd1 hc1 hd2 e2 e3 hj
          have hcs : d1 = false ∨ (d1 = true ∧ d2 = false) ∨ (d1 = true ∧ d2 = true) := by cases d1 <;> cases d2 <;> simp
          rcases hcs with rfl | ⟨rfl, rfl⟩ | ⟨rfl, rfl⟩
          · have HB2 := hid (gapsB_false hlt HO.out)
            go_wp2_with fail
            refine Hin.out.mono ?_
            rintro e w2 ⟨rfl, rfl⟩
            go_wp2_with fail
            go_ret
            exact ⟨ret_int (by rw [HG.out, HB2.out]; simp), B1.out⟩
          · have HB2 := hid (gapsB_false hlt HO.out)
            have hle : p ≤ q := by simpa using hd3
            clear hd3
            go_wp2_with fail
            refine Hin.out.mono ?_
            rintro e w2 ⟨rfl, rfl⟩
            go_wp2_with fail
            go_ret
            exact ⟨ret_int (by rw [HG.out, HB2.out]; simp), B1.out⟩
          · have hle : q < p := by simpa using hd3
            clear hd3
            go_wp2_with fail
            refine Hin.out.mono ?_
            rintro e w2 ⟨rfl, rfl⟩
            go_wp2_with fail
            exact ⟨⟨k + 1, by omega, by go_num, below_ok HT.out HO.out, by trivial⟩, by simp [intOf]; omega⟩
      · obtain rfl : k = gs.length := by omega
        have HB2 := hid (gapsB_true HT.out)
        go_wp2_with fail
        go_ret
        exact ⟨ret_int (by rw [HG.out, HB2.out]; simp), B1.out⟩
  · have hne : (v != 0) = true := by simpa using hv0
    have Hv := hid hv0
    clear hv0
    go_enter Tryz.func45, Tryz.ntmps45
    go_wp2_with fail
    refine Ha.out.mono ?_
    rintro e w1 ⟨rfl, hb1⟩
    have B1 := hid (below_of HB.out (by simp) hb1)
    go_wp2_with fail
    go_ret
    exact ⟨ret_int (by rw [HG.out, if_pos Hv.out]), B1.out⟩
end Go.Proofs.YthhfndifcdiomaaGreat
