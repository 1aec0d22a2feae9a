/-
  RacesOf, the reference's.
  Conditions: the fields are in their kinds' ranges.
-/
import Derived.Test.YtnabedhhflfepaaRaces
namespace Go.Proofs.Ytnabedhhflfepaa
open Go.RowKit
set_option linter.unusedSimpArgs false
set_option linter.unusedVariables false

set_option maxHeartbeats 2000000 in
theorem races_S (A : Option Addr) (c1 : Nat) (R : List Wn) (w : World) (h : SlA Wn.enc 4 w A R) (hRl : R.length ≤ 1048576) (hsi : ∀ p ∈ R, 0 ≤ p.si ∧ p.si ≤ 15) :
    Calls Try.prog 18 #[.slice A R.length c1] w (ResR en1 1 2 w (idxP RacesOfP R R.length)) := by
  have HSI := hid hsi
  clear hsi
  go_enter Try.func18, Try.ntmps18
  go_wp2_with fail
  go_loopw [3, 4] (fun o i wr => ∃ (k m : Nat) (B : Option Addr) (c2 : Nat), k ≤ R.length ∧ i = .int .i64 k ∧ o = .slice B m c2 ∧ m = (idxP RacesOfP R k).length ∧ wr.ownsRow w.heap.size 2 1 (.slice B m c2) m ((idxP RacesOfP R k).flatMap en1) ∧ Below w.heap.size w wr) (fun _ i _ => R.length - (intOf i).toNat)
  case atStart => exact ⟨0, 0, _, _, Nat.zero_le _, rfl, rfl, rfl, by simpa [idxP] using World.ownsRow_lit w #[] 0 (Nat.le_refl _) (by simp [maxLen]) (by simp), (Below.refl _ _).alloc (Nat.le_refl _) _⟩
  case round =>
    obtain ⟨k, m, B, c2, hk, rfl, rfl, hm, own, hbl⟩ := hrel
    have Ho := hid own
    have HBL := hid hbl
    have hz := hbl.size
    have hmk : m ≤ k := by rw [hm]; exact idxP_le RacesOfP R k
    have HM := hid hm
    by_cases hlt : k < R.length
    · have hd : decide ((k : Int) < (R.length : Int)) = true := by rw [decide_eq_true_iff]; omega
      have hki : (k : Int) < (R.length : Int) := by omega
      obtain ⟨b1, o1, rfl, hb1, hc1⟩ := (h.below hbl).cells (by omega)
      have e1 : R[k]? = some R[k] := List.getElem?_eq_getElem hlt
      have hs := HSI.out _ (List.getElem_mem hlt)
      have Hp := hid e1
      clear e1
      generalize R[k] = p at *
      have f0 : wr.cell? ⟨b1, o1 + k * 4, none⟩ = some (.int .u8 p.si) := hc1 k _ Hp.out 0 _ rfl
      have f1 : wr.cell? ⟨b1, o1 + k * 4 + 1, none⟩ = some (.bool p.su) := hc1 k _ Hp.out 1 _ rfl
      have f2 : wr.cell? ⟨b1, o1 + k * 4 + 2, none⟩ = some (.int .i64 p.ea) := hc1 k _ Hp.out 2 _ rfl
      have f3 : wr.cell? ⟨b1, o1 + k * 4 + 3, none⟩ = some (.int .i64 p.la) := hc1 k _ Hp.out 3 _ rfl
      have BX : ∀ o, Below wr.heap.size wr (wr.alloc o) := fun o => (Below.refl _ _).alloc (Nat.le_refl _) o
      have HBX := hid BX
      clear hc1 own hbl hm BX
      obtain ⟨si, su, ea, la⟩ := p
      dsimp only at hs f0 f1 f2 f3
      have h16 : si = 0 ∨ si = 1 ∨ si = 2 ∨ si = 3 ∨ si = 4 ∨ si = 5 ∨ si = 6 ∨ si = 7 ∨ si = 8 ∨ si = 9 ∨ si = 10 ∨ si = 11 ∨ si = 12 ∨ si = 13 ∨ si = 14 ∨ si = 15 := by omega
      clear hs
      obtain ⟨r, hr⟩ : ∃ r, RacesOfP ⟨si, su, ea, la⟩ = r := ⟨_, rfl⟩
      have Hr := hid hr
      rcases h16 with rfl | rfl | rfl | rfl | rfl | rfl | rfl | rfl | rfl | rfl | rfl | rfl | rfl | rfl | rfl | rfl
      all_goals cases su
      all_goals (
        first
          | (have hrf : r = false := hr.symm.trans rfl
             subst hrf
             clear hr
             go_wp2_with fail
             exact ⟨⟨k + 1, m, B, c2, by omega, by go_num, rfl, by rw [idxP_no Hp.out Hr.out, HM.out], by rw [idxP_no Hp.out Hr.out]; exact own_step Ho.out (HBX.out _), below_of HBL.out hz (HBX.out _)⟩, by simp [intOf]; omega⟩)
          | (have hrf : r = true := hr.symm.trans rfl
             subst hrf
             clear hr
             go_wp2_with (at_builtin; refine app_one (w := wr.alloc _) 50 2 (.int .i64 0) 1 8 Try.underlying50 (by kernel_rfl) rfl (by decide) w.heap.size _ m _ (own_step Ho.out (HBX.out _)) ?c1 (by decide) ?c2 [.int .i64 k] _ _ rfl rfl rfl _ rfl ?c3 rfl (by intro u hu; simp at hu; rcases hu with rfl; rfl) ?_)
             case c1 => omega
             case c2 => simp; omega
             case c3 => simp
             intro A2 c3 w3 own3 hb3 hg3 hat3
             have HO3 := hid own3
             have HB3 := hid ((below_of HBL.out hz (HBX.out _)).trans hb3)
             clear own3 hb3 hg3 hat3
             go_wp2_with fail
             refine ⟨⟨k + 1, m + 1, A2, c3, by omega, by go_num, rfl, by rw [idxP_yes Hp.out Hr.out, HM.out]; simp, ?_, HB3.out⟩, by simp [intOf]; omega⟩
             rw [idxP_yes Hp.out Hr.out, List.flatMap_append]
             simpa [en1] using HO3.out))
    · obtain rfl : k = R.length := by omega
      have hd : decide ((R.length : Int) < (R.length : Int)) = false := by rw [decide_eq_false_iff_not]; omega
      clear own hbl hm
      go_wp2_with fail
      refine bodyPost_ret (v := .slice B m c2) (by simp [results, Try.results18, go_sem]) rfl ?_
      refine ⟨B, c2, ?_, HBL.out, ?_⟩
      · rw [← HM.out]
      · rw [← HM.out]; exact Ho.out
end Go.Proofs.Ytnabedhhflfepaa
