/-
  The reference's clock: the earliest and the latest hits in rows of four; from which sides a piece may fall; the least latest hit.
  Conditions: at most 60 pieces.
-/
import Derived.Test.YtnabedhhflfepaaTimeLaw
import Derived.Test.YtnabedhhflfepaaBoard
namespace Go.Proofs.Ytnabedhhflfepaa
open Go.RowKit
set_option linter.unusedSimpArgs false
set_option linter.unusedVariables false

/-- A tick as the reference writes it: -1 for none. -/
def dn (v : Nat) : Int := if v < big then (v : Int) else -1
theorem dn_lt {v : Nat} (h : v < big) : dn v = v := by unfold dn; rw [if_pos h]
theorem dn_ge {v : Nat} (h : ¬ v < big) : dn v = -1 := by unfold dn; rw [if_neg h]
structure TkA (w : World) (g n : Nat) (E : Nat → Nat) : Prop where
  lt : g < w.heap.size
  c : ∀ i s, i < n → s < 4 → w.cell? ⟨g, i * 4 + s, none⟩ = some (.int .i64 (dn (E (4 * i + s))))
theorem TkA.below {w w1 : World} {g n B : Nat} {E : Nat → Nat} (h : TkA w g n E) (hb : Below B w w1) (hB : g < B) : TkA w1 g n E :=
  ⟨Nat.lt_of_lt_of_le h.lt hb.size, fun i s hi hs => (hb.cell (p := ⟨g, _, none⟩) hB).trans (h.c i s hi hs)⟩
theorem bef_false {L : Nat → Nat} {q t side : Nat} (h : ∀ j, j < 4 → ¬ (L (4 * q + j) < t ∨ L (4 * q + j) = t ∧ j < side)) : bef L q t side = false := by
  cases hb : bef L q t side with
  | false => rfl
  | true =>
    obtain ⟨k, hk, e⟩ := bef_iff.1 hb
    exact absurd e (h k hk)
def minTo (f : Nat → Nat) : Nat → Nat
  | 0 => big
  | k + 1 => min (minTo f k) (f k)
theorem minTo_four (f : Nat → Nat) : minTo f 4 = min big (best4 f) := by
  simp only [minTo, best4]
  omega
theorem minTo_le (f : Nat → Nat) : ∀ k, minTo f k ≤ big
  | 0 => Nat.le_refl _
  | k + 1 => by have := minTo_le f k; simp only [minTo]; omega
theorem may_S (cb eg lg n ec lc : Nat) (E L : Nat → Nat) (i s : Nat) (w : World) (hi : i < n) (hs : s < 4) (hn : n ≤ 60)
    (k4 : w.cell? ⟨cb, 4, none⟩ = some (.slice (some ⟨eg, 0, none⟩) n ec)) (k5 : w.cell? ⟨cb, 5, none⟩ = some (.slice (some ⟨lg, 0, none⟩) n lc)) (hE : TkA w eg n E) (hL : TkA w lg n L) :
    Calls Try.prog 40 #[.pointer (some ⟨cb, 0, none⟩), .int .i64 i, .int .i64 s] w fun e w' => e = .returned (.bool (mayT E L i s)) ∧ w = w' := by
  have f0 := hE.c i s hi hs
  have hi1 : (i : Int) < (n : Int) := by omega
  have hs1 : (s : Int) < 4 := by omega
  by_cases ht : E (4 * i + s) < big
  · rw [dn_lt ht] at f0
    have HM := hid (show mayT E L i s = !bef L i (E (4 * i + s)) s by unfold mayT; rw [decide_eq_true ht, Bool.true_and])
    obtain ⟨t, hte⟩ : ∃ t, E (4 * i + s) = t := ⟨_, rfl⟩
    rw [hte] at f0 HM ht
    have HtB := hid ht
    have hd0 : decide ((t : Int) < 0) = false := by rw [decide_eq_false_iff_not]; omega
    clear hte hE ht
    go_enter Try.func40, Try.ntmps40
    go_wp2_with fail
    go_loop [8] (fun kv => ∃ k : Nat, k ≤ 4 ∧ kv = .int .i64 k ∧ ∀ j, j < k → ¬ (L (4 * i + j) < t ∨ L (4 * i + j) = t ∧ j < s)) (fun kv => 4 - (intOf kv).toNat)
    case atStart => exact ⟨0, Nat.zero_le _, rfl, fun j hj => by omega⟩
    case round =>
      obtain ⟨k, hk, rfl, hno⟩ := hrel
      have HN := hid hno
      clear hno
      by_cases hlt : k < 4
      · have f1 := hL.c i k hi hlt
        have hk1 : (k : Int) < 4 := by omega
        obtain ⟨u, hu⟩ : ∃ u, L (4 * i + k) = u := ⟨_, rfl⟩
        rw [hu] at f1
        have Hu := hid hu
        clear hu
        by_cases hb : u < big
        · rw [dn_lt hb] at f1
          have hu0 : decide ((u : Int) ≥ 0) = true := by rw [decide_eq_true_iff]; omega
          rcases Nat.lt_trichotomy u t with h1 | h1 | h1
          · have e1 : decide ((u : Int) < (t : Int)) = true := by rw [decide_eq_true_iff]; omega
            go_wp2_with fail
            go_ret
            refine ⟨ret_bool ?_, rfl⟩
            rw [HM.out, bef_iff.2 ⟨k, hlt, .inl (by rw [Hu.out]; exact h1)⟩]
            rfl
          · subst h1
            have e1 : decide ((u : Int) < (u : Int)) = false := by rw [decide_eq_false_iff_not]; omega
            have e2 : ((u : Int) == (u : Int)) = true := by simp
            by_cases h2 : k < s
            · have e3 : decide ((k : Int) < (s : Int)) = true := by rw [decide_eq_true_iff]; omega
              go_wp2_with fail
              go_ret
              refine ⟨ret_bool ?_, rfl⟩
              rw [HM.out, bef_iff.2 ⟨k, hlt, .inr ⟨Hu.out, h2⟩⟩]
              rfl
            · have e3 : decide ((k : Int) < (s : Int)) = false := by rw [decide_eq_false_iff_not]; omega
              go_wp2_with fail
              refine ⟨⟨k + 1, by omega, by go_num, fun j hj => ?_⟩, by simp [intOf]; omega⟩
              rcases Nat.lt_or_ge j k with h3 | h3
              · exact HN.out j h3
              · obtain rfl : j = k := by omega
                rw [Hu.out]; omega
          · have e1 : decide ((u : Int) < (t : Int)) = false := by rw [decide_eq_false_iff_not]; omega
            have e2 : ((u : Int) == (t : Int)) = false := by rw [beq_eq_false_iff_ne]; omega
            go_wp2_with fail
            refine ⟨⟨k + 1, by omega, by go_num, fun j hj => ?_⟩, by simp [intOf]; omega⟩
            rcases Nat.lt_or_ge j k with h3 | h3
            · exact HN.out j h3
            · obtain rfl : j = k := by omega
              rw [Hu.out]; omega
        · rw [dn_ge hb] at f1
          go_wp2_with fail
          refine ⟨⟨k + 1, by omega, by go_num, fun j hj => ?_⟩, by simp [intOf]; omega⟩
          rcases Nat.lt_or_ge j k with h3 | h3
          · exact HN.out j h3
          · obtain rfl : j = k := by omega
            have := HtB.out
            rw [Hu.out]; omega
      · obtain rfl : k = 4 := by omega
        go_wp2_with fail
        go_ret
        refine ⟨ret_bool ?_, rfl⟩
        rw [HM.out, bef_false HN.out]
        rfl
  · rw [dn_ge ht] at f0
    have HM := hid (show mayT E L i s = false by unfold mayT; rw [decide_eq_false ht, Bool.false_and])
    go_enter Try.func40, Try.ntmps40
    go_wp2_with fail
    go_ret
    exact ⟨ret_bool HM.out.symm, rfl⟩
theorem least_S (cb lg n lc : Nat) (L : Nat → Nat) (i : Nat) (w : World) (hi : i < n) (hn : n ≤ 60)
    (k5 : w.cell? ⟨cb, 5, none⟩ = some (.slice (some ⟨lg, 0, none⟩) n lc)) (hL : TkA w lg n L) :
    Calls Try.prog 39 #[.pointer (some ⟨cb, 0, none⟩), .int .i64 i] w fun e w' => e = .returned (.int .i64 (dn (best4 fun k => L (4 * i + k)))) ∧ w = w' := by
  have hi1 : (i : Int) < (n : Int) := by omega
  go_enter Try.func39, Try.ntmps39
  go_wp2_with fail
  go_loop [5, 6] (fun bv kv => ∃ k : Nat, k ≤ 4 ∧ kv = .int .i64 k ∧ bv = .int .i64 (dn (minTo (fun k => L (4 * i + k)) k))) (fun _ kv => 4 - (intOf kv).toNat)
  case atStart => exact ⟨0, Nat.zero_le _, rfl, rfl⟩
  case round =>
    obtain ⟨k, hk, rfl, rfl⟩ := hrel
    by_cases hlt : k < 4
    · have f1 := hL.c i k hi hlt
      have hk1 : (k : Int) < 4 := by omega
      obtain ⟨u, hu⟩ : ∃ u, L (4 * i + k) = u := ⟨_, rfl⟩
      obtain ⟨m, hm⟩ : ∃ m, minTo (fun k => L (4 * i + k)) k = m := ⟨_, rfl⟩
      have hmb : m ≤ big := by rw [← hm]; exact minTo_le _ _
      have HS := hid (show minTo (fun k => L (4 * i + k)) (k + 1) = min m u by simp only [minTo]; rw [hm, hu])
      rw [hu] at f1
      rw [hm]
      clear hu hm
      have hbig := hid (show big = 1099511627776 from rfl)
      by_cases hb : u < big
      · rw [dn_lt hb] at f1
        have hu0 : decide ((u : Int) ≥ 0) = true := by rw [decide_eq_true_iff]; omega
        by_cases hm2 : m < big
        · rw [dn_lt hm2]
          have hm0 : decide ((m : Int) < 0) = false := by rw [decide_eq_false_iff_not]; omega
          by_cases h1 : u < m
          · have e1 : decide ((u : Int) < (m : Int)) = true := by rw [decide_eq_true_iff]; omega
            go_wp2_with fail
            exact ⟨⟨k + 1, by omega, by go_num, by rw [HS.out, Nat.min_eq_right (by omega), dn_lt hb]⟩, by simp [intOf]; omega⟩
          · have e1 : decide ((u : Int) < (m : Int)) = false := by rw [decide_eq_false_iff_not]; omega
            go_wp2_with fail
            exact ⟨⟨k + 1, by omega, by go_num, by rw [HS.out, Nat.min_eq_left (by omega), dn_lt hm2]⟩, by simp [intOf]; omega⟩
        · rw [dn_ge hm2]
          go_wp2_with fail
          exact ⟨⟨k + 1, by omega, by go_num, by rw [HS.out, Nat.min_eq_right (by omega), dn_lt hb]⟩, by simp [intOf]; omega⟩
      · rw [dn_ge hb] at f1
        go_wp2_with fail
        exact ⟨⟨k + 1, by omega, by go_num, by rw [HS.out, Nat.min_eq_left (by omega)]⟩, by simp [intOf]; omega⟩
    · obtain rfl : k = 4 := by omega
      go_wp2_with fail
      go_ret
      refine ⟨ret_int ?_, rfl⟩
      rw [minTo_four]
      unfold dn
      by_cases h : best4 (fun k => L (4 * i + k)) < big
      · rw [if_pos h, if_pos (by omega), Nat.min_eq_right (by omega)]
      · rw [if_neg h, if_neg (by omega)]
end Go.Proofs.Ytnabedhhflfepaa
