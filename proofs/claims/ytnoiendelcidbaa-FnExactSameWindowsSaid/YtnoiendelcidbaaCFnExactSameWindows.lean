/-
  FnExactSameWindows' call: it returns true, whatever the arguments are.
  Conditions: none beyond the statement's own.
-/
import Derived.Test.YtnoiendelcidbaaConvWn
namespace Go.Proofs.Ytnoiendelcidbaa
open Go.RowKit
set_option linter.unusedSimpArgs false
set_option linter.unusedVariables false

set_option maxHeartbeats 400000 in
theorem same_Wn_S (a b : Option Addr) (c d : Nat) (xs ys : List Wn) (w : World) (ha : SlA Wn.enc 4 w a xs) (hb : SlA Wn.enc 4 w b ys) :
    Calls Try.prog 17 #[.slice a xs.length c, .slice b ys.length d] w fun e w' => e = .returned (.bool (decide (xs = ys))) ∧ Below w.heap.size w w' := by
  have sa := ha.small
  have sb := hb.small
  by_cases hl : xs.length = ys.length
  · have hl1 : ((xs.length : Int) != ys.length) = false := by simp [hl]
    go_enter Try.func17, Try.ntmps17
    go_wp2_with fail
    go_loopw [5] (fun i wr => ∃ k : Nat, k ≤ xs.length ∧ i = .int .i64 k ∧ xs.take k = ys.take k ∧ Below w.heap.size w wr) (fun i _ => xs.length - (intOf i).toNat)
    case atStart => exact ⟨0, Nat.zero_le _, rfl, rfl, Below.refl _ _⟩
    case round =>
      obtain ⟨k, hk, rfl, ht, hbl⟩ := hrel
      by_cases hlt : k < xs.length
      · obtain ⟨b1, o1, rfl, hb1, hc1⟩ := ha.cells (by omega)
        obtain ⟨b2, o2, rfl, hb2, hc2⟩ := hb.cells (by omega)
        have hly : k < ys.length := by omega
        have e1 : xs[k]? = some xs[k] := List.getElem?_eq_getElem hlt
        have e2 : ys[k]? = some ys[k] := List.getElem?_eq_getElem hly
        have Hp := hid e1
        have Hq := hid e2
        have HT := hid ht
        have HL := hid hl
        clear ht hl e1 e2
        generalize xs[k] = p at *
        generalize ys[k] = q at *
        have f0 : w.cell? ⟨b1, o1 + k * 4, none⟩ = some (.int .u8 p.si) := hc1 k _ Hp.out 0 _ rfl
        have f1 : w.cell? ⟨b1, o1 + k * 4 + 1, none⟩ = some (.bool p.su) := hc1 k _ Hp.out 1 _ rfl
        have f2 : w.cell? ⟨b1, o1 + k * 4 + 2, none⟩ = some (.int .i64 p.ea) := hc1 k _ Hp.out 2 _ rfl
        have f3 : w.cell? ⟨b1, o1 + k * 4 + 3, none⟩ = some (.int .i64 p.la) := hc1 k _ Hp.out 3 _ rfl
        have g0 : w.cell? ⟨b2, o2 + k * 4, none⟩ = some (.int .u8 q.si) := hc2 k _ Hq.out 0 _ rfl
        have g1 : w.cell? ⟨b2, o2 + k * 4 + 1, none⟩ = some (.bool q.su) := hc2 k _ Hq.out 1 _ rfl
        have g2 : w.cell? ⟨b2, o2 + k * 4 + 2, none⟩ = some (.int .i64 q.ea) := hc2 k _ Hq.out 2 _ rfl
        have g3 : w.cell? ⟨b2, o2 + k * 4 + 3, none⟩ = some (.int .i64 q.la) := hc2 k _ Hq.out 3 _ rfl
        obtain ⟨hcw, hfw⟩ := bcell hbl
        have hz := hbl.size
        have hb1w : b1 < wr.heap.size := by omega
        have hb2w : b2 < wr.heap.size := by omega
        clear hc1 hc2
        have hg : Try.prog.eqGuardType Try.prog.depth 28 = false := by kernel_rfl
        have heq := fun W => eql_Wn p q W
        simp only [Wn.enc] at heq
        obtain ⟨d1, hd⟩ : ∃ d1 : Bool, decide (p = q) = d1 := ⟨_, rfl⟩
        simp only [hd] at heq
        have Hd := hid hd
        clear hd
        have hL := @later_cell wr
        go_wp2_with fail
        refine wp_region_later (by kernel_rfl) (by kernel_rfl) ?_
        repeat (first | go_big_quiet_skip | (go_big_quiet_want; go_big_quiet_op; go_big_quiet_on))
        refine wpQuiet_nil ?_
        intro x
        clear heq hg
        cases d1
        · go_wp2_with fail
          go_ret
          refine ⟨ret_bool ?_, below_of hbl hz x.below⟩
          have hne : p ≠ q := of_decide_eq_false Hd.out
          rw [eq_comm, decide_eq_false_iff_not]
          intro e
          apply hne
          have h1 := Hp.out
          rw [e] at h1
          exact Option.some.inj (h1.symm.trans Hq.out)
        · go_wp2_with fail
          have heq : p = q := of_decide_eq_true Hd.out
          refine ⟨⟨k + 1, by omega, by go_num, ?_, below_of hbl hz x.below⟩, by simp [intOf]; omega⟩
          rw [List.take_add_one, List.take_add_one, HT.out, Hp.out, Hq.out, heq]
      · obtain rfl : k = xs.length := by omega
        have h7 : ys.length ≤ xs.length := by omega
        have HT := hid ht
        have HL := hid hl
        clear ht hl
        go_wp2_with fail
        go_ret
        refine ⟨ret_bool ?_, hbl⟩
        rw [eq_comm, decide_eq_true_iff]
        have := HT.out
        rw [List.take_length, HL.out, List.take_length] at this
        exact this
  · have hl1 : ((xs.length : Int) != ys.length) = true := by rw [bne_iff_ne]; omega
    have HL := hid hl
    clear hl
    go_enter Try.func17, Try.ntmps17
    go_wp2_with fail
    go_ret
    refine ⟨ret_bool ?_, Below.refl _ _⟩
    rw [eq_comm, decide_eq_false_iff_not]
    intro e
    exact HL.out (by rw [e])
set_option maxHeartbeats 400000 in
theorem same_Wn_G (a b : Option Addr) (c d : Nat) (xs ys : List Wn) (w : World) (ha : SlA Wn.enc 4 w a xs) (hb : SlA Wn.enc 4 w b ys) :
    Calls Try.prog 59 #[.slice a xs.length c, .slice b ys.length d] w fun e w' => e = .returned (.bool (decide (xs = ys))) ∧ Below w.heap.size w w' := by
  have sa := ha.small
  have sb := hb.small
  by_cases hl : xs.length = ys.length
  · have hl1 : ((xs.length : Int) != ys.length) = false := by simp [hl]
    go_enter Try.func59, Try.ntmps59
    go_wp2_with fail
    go_loopw [13] (fun i wr => ∃ k : Nat, k ≤ xs.length ∧ i = .int .i64 k ∧ xs.take k = ys.take k ∧ Below w.heap.size w wr) (fun i _ => xs.length - (intOf i).toNat)
    case atStart => exact ⟨0, Nat.zero_le _, rfl, rfl, Below.refl _ _⟩
    case round =>
      obtain ⟨k, hk, rfl, ht, hbl⟩ := hrel
      by_cases hlt : k < xs.length
      · obtain ⟨b1, o1, rfl, hb1, hc1⟩ := ha.cells (by omega)
        obtain ⟨b2, o2, rfl, hb2, hc2⟩ := hb.cells (by omega)
        have hly : k < ys.length := by omega
        have e1 : xs[k]? = some xs[k] := List.getElem?_eq_getElem hlt
        have e2 : ys[k]? = some ys[k] := List.getElem?_eq_getElem hly
        have Hp := hid e1
        have Hq := hid e2
        have HT := hid ht
        have HL := hid hl
        clear ht hl e1 e2
        generalize xs[k] = p at *
        generalize ys[k] = q at *
        have f0 : w.cell? ⟨b1, o1 + k * 4, none⟩ = some (.int .u8 p.si) := hc1 k _ Hp.out 0 _ rfl
        have f1 : w.cell? ⟨b1, o1 + k * 4 + 1, none⟩ = some (.bool p.su) := hc1 k _ Hp.out 1 _ rfl
        have f2 : w.cell? ⟨b1, o1 + k * 4 + 2, none⟩ = some (.int .i64 p.ea) := hc1 k _ Hp.out 2 _ rfl
        have f3 : w.cell? ⟨b1, o1 + k * 4 + 3, none⟩ = some (.int .i64 p.la) := hc1 k _ Hp.out 3 _ rfl
        have g0 : w.cell? ⟨b2, o2 + k * 4, none⟩ = some (.int .u8 q.si) := hc2 k _ Hq.out 0 _ rfl
        have g1 : w.cell? ⟨b2, o2 + k * 4 + 1, none⟩ = some (.bool q.su) := hc2 k _ Hq.out 1 _ rfl
        have g2 : w.cell? ⟨b2, o2 + k * 4 + 2, none⟩ = some (.int .i64 q.ea) := hc2 k _ Hq.out 2 _ rfl
        have g3 : w.cell? ⟨b2, o2 + k * 4 + 3, none⟩ = some (.int .i64 q.la) := hc2 k _ Hq.out 3 _ rfl
        obtain ⟨hcw, hfw⟩ := bcell hbl
        have hz := hbl.size
        have hb1w : b1 < wr.heap.size := by omega
        have hb2w : b2 < wr.heap.size := by omega
        clear hc1 hc2
        have hg : Try.prog.eqGuardType Try.prog.depth 28 = false := by kernel_rfl
        have heq := fun W => eql_Wn p q W
        simp only [Wn.enc] at heq
        obtain ⟨d1, hd⟩ : ∃ d1 : Bool, decide (p = q) = d1 := ⟨_, rfl⟩
        simp only [hd] at heq
        have Hd := hid hd
        clear hd
        have hL := @later_cell wr
        go_wp2_with fail
        refine wp_region_later (by kernel_rfl) (by kernel_rfl) ?_
        repeat (first | go_big_quiet_skip | (go_big_quiet_want; go_big_quiet_op; go_big_quiet_on))
        refine wpQuiet_nil ?_
        intro x
        clear heq hg
        cases d1
        · go_wp2_with fail
          go_ret
          refine ⟨ret_bool ?_, below_of hbl hz x.below⟩
          have hne : p ≠ q := of_decide_eq_false Hd.out
          rw [eq_comm, decide_eq_false_iff_not]
          intro e
          apply hne
          have h1 := Hp.out
          rw [e] at h1
          exact Option.some.inj (h1.symm.trans Hq.out)
        · go_wp2_with fail
          have heq : p = q := of_decide_eq_true Hd.out
          refine ⟨⟨k + 1, by omega, by go_num, ?_, below_of hbl hz x.below⟩, by simp [intOf]; omega⟩
          rw [List.take_add_one, List.take_add_one, HT.out, Hp.out, Hq.out, heq]
      · obtain rfl : k = xs.length := by omega
        have h7 : ys.length ≤ xs.length := by omega
        have HT := hid ht
        have HL := hid hl
        clear ht hl
        go_wp2_with fail
        go_ret
        refine ⟨ret_bool ?_, hbl⟩
        rw [eq_comm, decide_eq_true_iff]
        have := HT.out
        rw [List.take_length, HL.out, List.take_length] at this
        exact this
  · have hl1 : ((xs.length : Int) != ys.length) = true := by rw [bne_iff_ne]; omega
    have HL := hid hl
    clear hl
    go_enter Try.func59, Try.ntmps59
    go_wp2_with fail
    go_ret
    refine ⟨ret_bool ?_, Below.refl _ _⟩
    rw [eq_comm, decide_eq_false_iff_not]
    intro e
    exact HL.out (by rw [e])
theorem same_Wn_I (a b : Option Addr) (c d : Nat) (xs ys : List Wn) (w : World) (ha : SlA Wn.enc 4 w a xs) (hb : SlA Wn.enc 4 w b ys) :
    Calls Try.prog 19 #[.slice a xs.length c, .slice b ys.length d] w fun e w' => e = .returned (.bool (decide (xs = ys))) ∧ Below w.heap.size w w' := by
  have Hs := hid (same_Wn_G a b c d xs ys w ha hb)
  clear ha hb
  go_enter Try.func19, Try.ntmps19
  go_wp2_with fail
  refine Hs.out.mono ?_
  rintro e w1 ⟨rfl, hb⟩
  go_wp2_with fail
  go_ret
  exact ⟨rfl, hb⟩
set_option maxHeartbeats 400000 in
theorem law_FnExactSameWindows (w : World) (a : Option Addr) (c : Nat) (xs : List Wn) (_ : ∀ p ∈ xs, p.Ok) (ha : SlA Wn.enc 4 w a xs) (b : Option Addr) (d : Nat) (ys : List Wn) (_ : ∀ p ∈ ys, p.Ok) (hb : SlA Wn.enc 4 w b ys) :
    Calls Try.prog 4 #[.slice a xs.length c, .slice b ys.length d] w fun e w' => e = .returned (.bool true) ∧ Below w.heap.size w w' := by
  have sa := ha.small
  have sb := hb.small
  have z1 := sz_Wn_L a xs.length c 1048576 w (by omega) (by omega) sa
  by_cases h1 : xs.length ≤ 1048576
  · rw [if_neg (by omega)] at z1
    have z2 := sz_Wn_L b ys.length d (1048576 - xs.length) w (by omega) (by omega) sb
    by_cases h2 : xs.length + ys.length ≤ 1048576
    · rw [if_neg (by omega)] at z2
      have l1 : (0 : Int) ≤ 1048576 - xs.length := by omega
      have l2 : (0 : Int) ≤ 1048576 - xs.length - ys.length := by omega
      have Z1 := hid z1
      have Z2 := hid z2
      clear z1 z2
      go_enter Try.func4, Try.ntmps4
      go_wp2_with fail
      refine Z1.out.mono ?_
      rintro e w0 ⟨rfl, rfl⟩
      go_wp2_with fail
      refine Z2.out.mono ?_
      rintro e w0 ⟨rfl, rfl⟩
      go_wp2_with fail
      refine (toS_Wn_L a c xs _ ha h1).mono ?_
      rintro e w1 ⟨g1, rfl, b1, o1⟩
      go_wp2_with fail
      refine (toS_Wn_L b d ys _ (hb.below b1) (by omega)).mono ?_
      rintro e w2 ⟨g2, rfl, b2, o2⟩
      have B2 := below_of b1 b1.size b2
      go_wp2_with fail
      refine (same_Wn_S _ _ _ _ xs ys _ (SlA.of_own (fun _ => rfl) (own_step o1 b2)) (SlA.of_own (fun _ => rfl) o2)).mono ?_
      rintro e w3 ⟨rfl, b3⟩
      have B3 := below_of B2 B2.size b3
      clear o1 o2 b1 b2 b3 B2
      go_wp2_with fail
      refine (toS_Wn_L a c xs _ (ha.below B3) h1).mono ?_
      rintro e w4 ⟨g4, rfl, b4, o4⟩
      have B4 := below_of B3 B3.size b4
      go_wp2_with fail
      refine (toS_Wn_L b d ys _ (hb.below B4) (by omega)).mono ?_
      rintro e w5 ⟨g5, rfl, b5, o5⟩
      have B5 := below_of B4 B4.size b5
      have o45 := own_step o4 b5
      go_wp2_with fail
      refine (same_Wn_I _ _ _ _ xs ys _ (SlA.of_own (fun _ => rfl) o45) (SlA.of_own (fun _ => rfl) o5)).mono ?_
      rintro e w6 ⟨rfl, b6⟩
      have B6 := below_of B5 B5.size b6
      have o46 := own_step o45 b6
      have o56 := own_step o5 b6
      clear o4 b4 b5 o45 o5 b6 B3 B4 B5
      have hne : ((decide (xs = ys)) != (decide (xs = ys))) = false := by simp
      generalize decide (xs = ys) = r at *
      go_wp2_with fail
      refine (toS_Wn_L a c xs _ (ha.below B6) h1).mono ?_
      rintro e w7 ⟨g7, rfl, b7, o7⟩
      have B7 := below_of B6 B6.size b7
      have o47 := own_step o46 b7
      have o57 := own_step o56 b7
      go_wp2_with fail
      refine (eqS_Wn_L _ _ _ _ xs xs _ (SlA.of_own (fun _ => rfl) o47) (SlA.of_own (fun _ => rfl) o7)).mono ?_
      rintro e w8 ⟨rfl, b8⟩
      have B8 := below_of B7 B7.size b8
      have o58 := own_step o57 b8
      clear o46 o56 B6 B7 b7 o7 o47 o57 b8
      have e1 : decide (xs = xs) = true := by simp
      rw [e1]
      go_wp2_with fail
      refine (toS_Wn_L b d ys _ (hb.below B8) (by omega)).mono ?_
      rintro e w9 ⟨g9, rfl, b9, o9⟩
      have B9 := below_of B8 B8.size b9
      have o59 := own_step o58 b9
      go_wp2_with fail
      refine (eqS_Wn_L _ _ _ _ ys ys _ (SlA.of_own (fun _ => rfl) o59) (SlA.of_own (fun _ => rfl) o9)).mono ?_
      rintro e w10 ⟨rfl, b10⟩
      have B10 := below_of B9 B9.size b10
      clear o59 o9 o58 b9 b10 B8 B9
      have e2 : decide (ys = ys) = true := by simp
      rw [e2]
      go_wp2_with fail
      go_ret
      exact ⟨rfl, B10⟩
    · rw [if_pos (by omega)] at z2
      have l1 : (0 : Int) ≤ 1048576 - xs.length := by omega
      have Z1 := hid z1
      have Z2 := hid z2
      clear z1 z2
      go_enter Try.func4, Try.ntmps4
      go_wp2_with fail
      refine Z1.out.mono ?_
      rintro e w0 ⟨rfl, rfl⟩
      go_wp2_with fail
      refine Z2.out.mono ?_
      rintro e w0 ⟨rfl, rfl⟩
      go_wp2_with fail
      go_ret
      exact ⟨rfl, Below.refl _ _⟩
  · rw [if_pos (by omega)] at z1
    have Z1 := hid z1
    clear z1
    go_enter Try.func4, Try.ntmps4
    go_wp2_with fail
    refine Z1.out.mono ?_
    rintro e w0 ⟨rfl, rfl⟩
    go_wp2_with fail
    go_ret
    exact ⟨rfl, Below.refl _ _⟩
end Go.Proofs.Ytnoiendelcidbaa
