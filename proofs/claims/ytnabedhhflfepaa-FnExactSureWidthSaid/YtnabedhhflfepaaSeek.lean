/-
  The program's search for least ticks: one side told; the search itself, whatever leads on.
  Conditions: the board, its pushes and spans are right.
-/
import Derived.Test.YtnabedhhflfepaaSeekPush
import Derived.Test.YtnabedhhflfepaaFallsB
import Derived.Deep.CutRange
import Derived.Deep.RegionHeld3
namespace Go.Proofs.Ytnabedhhflfepaa
open Go.RowKit
set_option linter.unusedSimpArgs false
set_option linter.unusedVariables false

theorem can_at {D : TmgD} {i : Nat} (hi : i < D.T.xs.length) (s : Nat) : D.net.can i s = canP D.T.xs[i] s := by
  simp only [TmgD.net, netOf, List.getElem?_eq_getElem hi]
  rfl
theorem addT_no {N : Net} {E : Nat → Nat} {k s v : Nat} (h : N.can k s = false) : addT N E k s v = E := by
  unfold addT
  rw [if_neg]
  rintro ⟨h1, _⟩
  rw [h] at h1
  cases h1
set_option maxHeartbeats 1000000 in
theorem add_I (D : TmgD) (xb ob g c k s v : Nat) (E : Nat → Nat) (w : World) (hT : Tmg w D) (hx : w.cell? ⟨xb, 0, none⟩ = some (.pointer (some ⟨D.tb, 0, none⟩))) (ho : w.cell? ⟨ob, 0, none⟩ = some (.slice (some ⟨g, 0, none⟩) D.T.xs.length c))
    (hE : TuA w g D.T.xs.length E) (hf : Fz w g) (hk : k < D.T.xs.length) (hs : s < 4) (hn : D.T.xs.length ≤ 200) :
    Calls Try.prog 96 #[.int .i64 k, .int .i64 s, .int .i64 v, .pointer (some ⟨xb, 0, none⟩), .pointer (some ⟨ob, 0, none⟩)] w fun e w' => e = .returned (.tuple #[]) ∧ w.grownBy w' (some g) ∧ TuA w' g D.T.xs.length (addT D.net E k s v) ∧ Fz w' g := by
  obtain ⟨b1, o1, ha, hb1, hc1⟩ := hT.st.cn.cells (by simp [canL]; omega)
  have e1 : (canL D.T.xs)[k]? = some (sBits (canP D.T.xs[k])) := by simp [canL, List.getElem?_map, List.getElem?_eq_getElem hk]
  have fc : w.cell? ⟨b1, o1 + k, none⟩ = some (.int .u8 (sBits (canP D.T.xs[k]))) := by
    have := hc1 k _ e1 0 _ rfl
    simpa using this
  have hsb := sBits_in (canP D.T.xs[k])
  have hbit := sBits_has (canP D.T.xs[k]) hs
  have hcan := can_at hk s
  have c0 := hT.c0
  have s1 := hT.st.c1
  rw [ha] at s1
  have ek := hE.c k s hk hs
  have hki : (k : Int) < (D.T.xs.length : Int) := by omega
  have hsi : (s : Int) < 4 := by omega
  have HH := hid (fun W => has_V (sBits (canP D.T.xs[k])) s W hsb hs)
  rw [hbit, ← hcan] at HH
  generalize sBits (canP D.T.xs[k]) = bits at *
  have HE := hid hE
  have HF := hid hf
  have ff : w.frozen? ⟨g, k * 4 + s, none⟩ = false := hf _
  clear hcan hbit e1 hc1 hE hf hT ha
  obtain ⟨d, hd⟩ : ∃ d, D.net.can k s = d := ⟨_, rfl⟩
  rw [hd] at HH
  cases d
  · have HA := hid (addT_no (E := E) (v := v) hd)
    clear hd
    go_enter Try.func96, Try.ntmps96
    go_wp2_with fail
    refine (HH.out _).mono ?_
    rintro e w1 ⟨rfl, rfl⟩
    go_wp2_with fail
    first | go_end0 | refine bodyPost_ret (results_none rfl _ _ _) rfl ?_
    exact ⟨rfl, World.grownBy.refl _ _, by rw [HA.out]; exact HE.out, HF.out⟩
  · obtain ⟨t, ht⟩ : ∃ t, E (4 * k + s) = t := ⟨_, rfl⟩
    rw [ht] at ek
    by_cases hv : v < t
    · have hlt : decide ((v : Int) < (t : Int)) = true := by rw [decide_eq_true_iff]; omega
      have HA := hid (show addT D.net E k s v = upd E (4 * k + s) v by unfold addT; rw [if_pos ⟨hd, by rw [ht]; exact hv⟩])
      clear hd ht
      go_enter Try.func96, Try.ntmps96
      go_wp2_with fail
      refine (HH.out _).mono ?_
      rintro e w1 ⟨rfl, rfl⟩
      go_wp2_with fail
      first | go_end0 | refine bodyPost_ret (results_none rfl _ _ _) rfl ?_
      exact ⟨rfl, store_grown _ _ _ _, by rw [HA.out]; exact HE.out.set hk hs v, HF.out.set _ _⟩
    · have hlt : decide ((v : Int) < (t : Int)) = false := by rw [decide_eq_false_iff_not]; omega
      have HA := hid (show addT D.net E k s v = E by unfold addT; rw [if_neg (fun h => hv (by rw [← ht]; exact h.2))])
      clear hd ht
      go_enter Try.func96, Try.ntmps96
      go_wp2_with fail
      refine (HH.out _).mono ?_
      rintro e w1 ⟨rfl, rfl⟩
      go_wp2_with fail
      first | go_end0 | refine bodyPost_ret (results_none rfl _ _ _) rfl ?_
      exact ⟨rfl, World.grownBy.refl _ _, by rw [HA.out]; exact HE.out, HF.out⟩
end Go.Proofs.Ytnabedhhflfepaa
