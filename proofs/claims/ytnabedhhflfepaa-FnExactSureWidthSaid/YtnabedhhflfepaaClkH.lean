/-
  The reference's clock: rows without hits; whether two rows are equal.
  Conditions: at most 60 pieces.
-/
import Derived.Test.YtnabedhhflfepaaClkG
import Derived.Test.YtnabedhhflfepaaApp
namespace Go.Proofs.Ytnabedhhflfepaa
open Go.RowKit
set_option linter.unusedSimpArgs false
set_option linter.unusedVariables false

theorem rep_four {v : Value} {k : Nat} : List.replicate (k * 4) v ++ [v, v, v, v] = List.replicate ((k + 1) * 4) v := by
  rw [show ([v, v, v, v] : List Value) = List.replicate 4 v from rfl, List.replicate_append_replicate, Nat.succ_mul]
set_option maxHeartbeats 400000 in
theorem none_S (n : Nat) (w : World) (hn : n ≤ 60) :
    Calls Try.prog 55 #[.int .i64 n] w fun e w' => ∃ g c, e = .returned (.slice (some ⟨g, 0, none⟩) n c) ∧ Below w.heap.size w w' ∧ w.heap.size ≤ g ∧ TkA w' g n (fun _ => big) ∧ Fz w' g := by
  have h0 := hid (World.ownsRow_lit w #[] 0 (Nat.le_refl _) (by simp [maxLen]) (by simp) : (w.alloc (.cells #[] 93)).ownsRow w.heap.size 93 4 (.slice (some ⟨w.heap.size, 0, none⟩) 0 0) 0 [])
  have hB := hid (fun o => (Below.refl w.heap.size w).alloc (Nat.le_refl _) o)
  go_enter Try.func55, Try.ntmps55
  go_wp2_with fail
  go_loopw [3, 4] (fun ov iv wr => ∃ (k : Nat) (A : Option Addr) (c : Nat), k ≤ n ∧ ov = .slice A k c ∧ iv = .int .i64 k ∧ wr.ownsRow w.heap.size 93 4 (.slice A k c) k (List.replicate (k * 4) (.int .i64 (-1))) ∧ Below w.heap.size w wr ∧ ∃ g, A = some ⟨g, 0, none⟩ ∧ w.heap.size ≤ g ∧ g < wr.heap.size ∧ Fz wr g) (fun _ iv _ => n - (intOf iv).toNat)
  case atStart => exact ⟨0, _, _, Nat.zero_le _, rfl, rfl, h0.out, hB.out _, w.heap.size, rfl, Nat.le_refl _, by simp, fun j => by simp [go_sem]⟩
  case round =>
    obtain ⟨k, A1, c1, hk, rfl, rfl, own, hbl, g9, hA9, hg9, hl9, hf9⟩ := hrel
    have Ho := hid own
    have hz := hbl.size
    have HB := hid hbl
    clear own hbl
    by_cases hlt : k < n
    · have hd : decide ((k : Int) < (n : Int)) = true := by rw [decide_eq_true_iff]; omega
      go_wp2_with (at_builtin; refine app_one (w := wr) 86 93 (.agg #[.int .i64 0, .int .i64 0, .int .i64 0, .int .i64 0]) 4 32 Try.underlying86 (by kernel_rfl) rfl (by decide) w.heap.size _ k _ Ho.out ?c1 (by decide) hz [.int .i64 (-1), .int .i64 (-1), .int .i64 (-1), .int .i64 (-1)] _ _ rfl rfl rfl _ rfl ?c3 rfl (by intro u hu; simp at hu; rcases hu with rfl | rfl | rfl | rfl <;> rfl) ?_)
      case c1 => omega
      case c3 => rfl
      intro A2 c2 w2 own2 hb2 hg2 hat2
      rw [rep_four] at own2
      have HR := hid own2
      have HB2 := hid (HB.out.trans hb2)
      clear own2 hb2 hg2 hat2
      go_wp2_with fail
      obtain ⟨g8, cap8, hv8, hg8, hlt8⟩ := HR.out.form (Nat.succ_pos k)
      injection hv8 with hv81 hv82 hv83
      subst hv81
      exact ⟨⟨k + 1, _, c2, by omega, rfl, by go_num, HR.out, HB2.out, g8, rfl, hg8, hlt8, fun j => HR.out.frozenAt j⟩, by simp [intOf]; omega⟩
    · obtain rfl : k = n := by omega
      have hd : decide ((k : Int) < (k : Int)) = false := by rw [decide_eq_false_iff_not]; omega
      go_wp2_with fail
      go_ret
      subst hA9
      refine ⟨g9, c1, rfl, HB.out, hg9, ⟨hl9, fun i s hi hs => ?_⟩, hf9⟩
      rw [Ho.out.cellAt (i * 4 + s) (by omega), List.getElem?_replicate, if_pos (by omega)]
      rfl
theorem eql4 (a0 a1 a2 a3 b0 b1 b2 b3 : Int) (w : World) : (Op.equalIn 10000 93 (.agg #[.int .i64 a0, .int .i64 a1, .int .i64 a2, .int .i64 a3]) (.agg #[.int .i64 b0, .int .i64 b1, .int .i64 b2, .int .i64 b3])).run Try.prog w = .ok (decide (a0 = b0 ∧ a1 = b1 ∧ a2 = b2 ∧ a3 = b3)) w := by
  have hsome : (Try.prog.info? 2).isSome = true := by kernel_rfl
  obtain ⟨i, hi⟩ := Option.isSome_iff_exists.1 hsome
  clear hsome
  have hc : Try.prog.cellsOf 2 = 1 := by kernel_rfl
  have hv := Try.underlying2
  have hu := Try.underlying93
  rw [run_equalIn_array (P := Try.prog) (w := w) 9999 _ _ hu hi, show List.range 4 = [0, 1, 2, 3] from rfl]
  simp [go_sem, Op.eqItems, hc, part, hv]
  by_cases h1 : a0 = b0 <;> by_cases h2 : a1 = b1 <;> by_cases h3 : a2 = b2 <;> by_cases h4 : a3 = b3 <;> simp [h1, h2, h3, h4]
theorem dn_inj {a b : Nat} (ha : a ≤ big) (hb : b ≤ big) : dn a = dn b ↔ a = b := by
  constructor
  · intro e
    unfold dn at e
    split at e <;> split at e <;> omega
  · intro e; rw [e]
set_option maxRecDepth 100000 in
set_option maxHeartbeats 400000 in
theorem settled_S (g1 g2 n c1 c2 : Nat) (E1 E2 : Nat → Nat) (w : World) (hn : n ≤ 60) (h1 : TkA w g1 n E1) (h2 : TkA w g2 n E2) (l1 : ∀ y, E1 y ≤ big) (l2 : ∀ y, E2 y ≤ big) :
    Calls Try.prog 58 #[.slice (some ⟨g1, 0, none⟩) n c1, .slice (some ⟨g2, 0, none⟩) n c2] w fun e w' => e = .returned (.bool (sameL (4 * n) E1 E2)) ∧ Below w.heap.size w w' := by
  go_enter Try.func58, Try.ntmps58
  go_wp2_with fail
  go_loopw [5] (fun iv wr => ∃ k : Nat, k ≤ n ∧ iv = .int .i64 k ∧ (∀ y, y < 4 * k → E1 y = E2 y) ∧ Below w.heap.size w wr) (fun iv _ => n - (intOf iv).toNat)
  case atStart => exact ⟨0, Nat.zero_le _, rfl, fun y hy => by omega, Below.refl _ _⟩
  case round =>
    obtain ⟨k, hk, rfl, ht, hbl⟩ := hrel
    have HT := hid ht
    clear ht
    by_cases hlt : k < n
    · have hd0 : decide ((k : Int) < (n : Int)) = true := by rw [decide_eq_true_iff]; omega
      have hki : (k : Int) < (n : Int) := by omega
      have t1 := h1.below hbl h1.lt
      have t2 := h2.below hbl h2.lt
      have a0 : wr.cell? ⟨g1, k * 4, none⟩ = some (.int .i64 (dn (E1 (4 * k)))) := t1.c k 0 hlt (by omega)
      have a1 : wr.cell? ⟨g1, k * 4 + 1, none⟩ = some (.int .i64 (dn (E1 (4 * k + 1)))) := t1.c k 1 hlt (by omega)
      have a2 : wr.cell? ⟨g1, k * 4 + 2, none⟩ = some (.int .i64 (dn (E1 (4 * k + 2)))) := t1.c k 2 hlt (by omega)
      have a3 : wr.cell? ⟨g1, k * 4 + 3, none⟩ = some (.int .i64 (dn (E1 (4 * k + 3)))) := t1.c k 3 hlt (by omega)
      have b0 : wr.cell? ⟨g2, k * 4, none⟩ = some (.int .i64 (dn (E2 (4 * k)))) := t2.c k 0 hlt (by omega)
      have b1 : wr.cell? ⟨g2, k * 4 + 1, none⟩ = some (.int .i64 (dn (E2 (4 * k + 1)))) := t2.c k 1 hlt (by omega)
      have b2 : wr.cell? ⟨g2, k * 4 + 2, none⟩ = some (.int .i64 (dn (E2 (4 * k + 2)))) := t2.c k 2 hlt (by omega)
      have b3 : wr.cell? ⟨g2, k * 4 + 3, none⟩ = some (.int .i64 (dn (E2 (4 * k + 3)))) := t2.c k 3 hlt (by omega)
      have hq : decide (dn (E1 (4 * k)) = dn (E2 (4 * k)) ∧ dn (E1 (4 * k + 1)) = dn (E2 (4 * k + 1)) ∧ dn (E1 (4 * k + 2)) = dn (E2 (4 * k + 2)) ∧ dn (E1 (4 * k + 3)) = dn (E2 (4 * k + 3))) = decide (E1 (4 * k) = E2 (4 * k) ∧ E1 (4 * k + 1) = E2 (4 * k + 1) ∧ E1 (4 * k + 2) = E2 (4 * k + 2) ∧ E1 (4 * k + 3) = E2 (4 * k + 3)) := by
        rw [decide_eq_decide, dn_inj (l1 _) (l2 _), dn_inj (l1 _) (l2 _), dn_inj (l1 _) (l2 _), dn_inj (l1 _) (l2 _)]
      have HQ := hid hq
      clear hq t1 t2
      have hg : Try.prog.eqGuardType Try.prog.depth 93 = false := by kernel_rfl
      have heq := fun W => eql4 (dn (E1 (4 * k))) (dn (E1 (4 * k + 1))) (dn (E1 (4 * k + 2))) (dn (E1 (4 * k + 3))) (dn (E2 (4 * k))) (dn (E2 (4 * k + 1))) (dn (E2 (4 * k + 2))) (dn (E2 (4 * k + 3))) W
      rw [HQ.out] at heq
      obtain ⟨d, hd⟩ : ∃ d, decide (E1 (4 * k) = E2 (4 * k) ∧ E1 (4 * k + 1) = E2 (4 * k + 1) ∧ E1 (4 * k + 2) = E2 (4 * k + 2) ∧ E1 (4 * k + 3) = E2 (4 * k + 3)) = d := ⟨_, rfl⟩
      simp only [hd] at heq
      have HD := hid hd
      generalize dn (E1 (4 * k)) = x0 at *
      generalize dn (E1 (4 * k + 1)) = x1 at *
      generalize dn (E1 (4 * k + 2)) = x2 at *
      generalize dn (E1 (4 * k + 3)) = x3 at *
      generalize dn (E2 (4 * k)) = y0 at *
      generalize dn (E2 (4 * k + 1)) = y1 at *
      generalize dn (E2 (4 * k + 2)) = y2 at *
      generalize dn (E2 (4 * k + 3)) = y3 at *
      clear hd HQ
      cases d
      · have HF := hid (show sameL (4 * n) E1 E2 = false by
          cases h : sameL (4 * n) E1 E2 with
          | false => rfl
          | true =>
            have h9 := sameL_iff.1 h
            have := of_decide_eq_false HD.out
            exact absurd ⟨h9 _ (by omega), h9 _ (by omega), h9 _ (by omega), h9 _ (by omega)⟩ this)
        go_wp2_with fail
        go_quiet (fail)
        clear heq hg
        go_wp2_with fail
        go_ret
        exact ⟨ret_bool HF.out.symm, below_drewN hbl _⟩
      · have HN := hid (show ∀ y, y < 4 * (k + 1) → E1 y = E2 y by
          intro y hy
          obtain ⟨h0, h1, h2, h3⟩ := of_decide_eq_true HD.out
          rcases Nat.lt_or_ge y (4 * k) with h4 | h4
          · exact HT.out y h4
          · have : y = 4 * k ∨ y = 4 * k + 1 ∨ y = 4 * k + 2 ∨ y = 4 * k + 3 := by omega
            rcases this with rfl | rfl | rfl | rfl <;> assumption)
        go_wp2_with fail
        go_quiet (fail)
        clear heq hg
        go_wp2_with fail
        exact ⟨⟨k + 1, by omega, by go_num, HN.out, below_drewN hbl _⟩, by simp [intOf]; omega⟩
    · obtain rfl : k = n := by omega
      have hd0 : decide ((k : Int) < (k : Int)) = false := by rw [decide_eq_false_iff_not]; omega
      have HF := hid (sameL_iff.2 HT.out)
      go_wp2_with fail
      go_ret
      exact ⟨ret_bool HF.out.symm, hbl⟩
end Go.Proofs.Ytnabedhhflfepaa
