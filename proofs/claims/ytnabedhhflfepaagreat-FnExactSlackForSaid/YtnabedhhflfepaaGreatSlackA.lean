/-
  Which pieces are in time, the program's; whether all still are, the reference's.
  Conditions: the windows are in memory.
-/
import Derived.Test.YtnabedhhflfepaaGreatSlackLaw
namespace Go.Proofs.YtnabedhhflfepaaGreat
open Go.RowKit
set_option linter.unusedSimpArgs false
set_option linter.unusedVariables false

def enB (b : Bool) : List Value := [.bool b]
theorem enB_length (b : Bool) : (enB b).length = 1 := rfl
set_option maxHeartbeats 1000000 in
theorem inTime_I (A : Option Addr) (c1 n : Nat) (R : List Wn) (u : Int) (w : World) (h : SlA Wn.enc 4 w A R) (hn : R.length = n) (hR : n ≤ 1048576) :
    Calls Tryz.prog 48 #[.slice A n c1, .int .i64 u] w fun e w' => ∃ B c2, e = .returned (.slice B n c2) ∧ Below w.heap.size w w' ∧ w'.ownsRow w.heap.size 4 1 (.slice B n c2) n ((R.map (inT u)).flatMap enB) := by
  subst hn
  go_enter Tryz.func48, Tryz.ntmps48
  go_wp2_with fail
  go_loopw [5, 11] (fun o i wr => ∃ (k : Nat) (B : Option Addr) (c2 : Nat), k ≤ R.length ∧ i = .int .i64 k ∧ o = .slice B k c2 ∧ wr.ownsRow w.heap.size 4 1 (.slice B k c2) k (((R.map (inT u)).take k).flatMap enB) ∧ Below w.heap.size w wr) (fun _ i _ => R.length - (intOf i).toNat)
  case atStart => exact ⟨0, _, _, Nat.zero_le _, rfl, rfl, by simpa using World.ownsRow_lit w #[] 0 (Nat.le_refl _) (by simp [maxLen]) (by simp), (Below.refl _ _).alloc (Nat.le_refl _) _⟩
  case round =>
    obtain ⟨k, B, c2, hk, rfl, rfl, own, hbl⟩ := hrel
    obtain ⟨V, hV⟩ : ∃ V, V = wr := ⟨_, rfl⟩
    subst hV
    have Ho := hid own
    have HBL := hid hbl
    have hz := hbl.size
    by_cases hlt : k < R.length
    · have hd : decide ((k : Int) < (R.length : Int)) = true := by rw [decide_eq_true_iff]; omega
      have hki : (k : Int) < (R.length : Int) := by omega
      obtain ⟨b1, o1, rfl, hb1, hc1⟩ := (h.below hbl).cells (by omega)
      have e1 : R[k]? = some R[k] := List.getElem?_eq_getElem hlt
      have Hp := hid e1
      clear e1
      generalize R[k] = p at *
      have f0 : V.cell? ⟨b1, o1 + k * 4, none⟩ = some (.int .u8 p.si) := hc1 k _ Hp.out 0 _ rfl
      have f1 : V.cell? ⟨b1, o1 + k * 4 + 1, none⟩ = some (.bool p.su) := hc1 k _ Hp.out 1 _ rfl
      have f2 : V.cell? ⟨b1, o1 + k * 4 + 2, none⟩ = some (.int .i64 p.ea) := hc1 k _ Hp.out 2 _ rfl
      have f3 : V.cell? ⟨b1, o1 + k * 4 + 3, none⟩ = some (.int .i64 p.la) := hc1 k _ Hp.out 3 _ rfl
      have BX : ∀ o, Below V.heap.size V (V.alloc o) := fun o => (Below.refl _ _).alloc (Nat.le_refl _) o
      have HBX := hid BX
      have HT := hid (show ((R.map (inT u)).take (k + 1)).flatMap enB = ((R.map (inT u)).take k).flatMap enB ++ [.bool (inT u p)] by rw [List.take_add_one, List.getElem?_map, Hp.out]; simp [enB])
      obtain ⟨si, su, ea, la⟩ := p
      dsimp only at f0 f1 f2 f3
      obtain ⟨d, hdl⟩ : ∃ d, decide (la ≤ u) = d := ⟨_, rfl⟩
      have HI := hid (show inT u ⟨si, su, ea, la⟩ = (su && d) by unfold inT; dsimp only; rw [hdl])
      rw [HI.out] at HT
      clear hc1 own hbl BX HI
      cases su
      · go_wp2_with (at_builtin; refine app_one (w := V.alloc _) 91 4 (.bool false) 1 1 Tryz.underlying91 (by kernel_rfl) rfl (by decide) w.heap.size _ k _ (own_step Ho.out (HBX.out _)) ?c1 (by decide) ?c2 [.bool false] _ _ rfl rfl rfl _ rfl ?c3 rfl (by intro u hu; simp at hu; rcases hu with rfl; rfl) ?_)
        case c1 => omega
        case c2 => simp; omega
        case c3 => simp
        intro A2 c3 w3 own3 hb3 hg3 hat3
        have HO3 := hid own3
        have HB3 := hid ((below_of HBL.out hz (HBX.out _)).trans hb3)
        clear own3 hb3 hg3 hat3
        go_wp2_with fail
        exact ⟨⟨k + 1, A2, c3, by omega, by go_num, rfl, by rw [HT.out]; simpa using HO3.out, HB3.out⟩, by simp [intOf]; omega⟩
      · go_wp2_with (at_builtin; refine app_one (w := V.alloc _) 91 4 (.bool false) 1 1 Tryz.underlying91 (by kernel_rfl) rfl (by decide) w.heap.size _ k _ (own_step Ho.out (HBX.out _)) ?c1 (by decide) ?c2 [.bool d] _ _ rfl rfl rfl _ rfl ?c3 rfl (by intro u hu; simp at hu; rcases hu with rfl; rfl) ?_)
        case c1 => omega
        case c2 => simp; omega
        case c3 => simp
        intro A2 c3 w3 own3 hb3 hg3 hat3
        have HO3 := hid own3
        have HB3 := hid ((below_of HBL.out hz (HBX.out _)).trans hb3)
        clear own3 hb3 hg3 hat3
        go_wp2_with fail
        exact ⟨⟨k + 1, A2, c3, by omega, by go_num, rfl, by rw [HT.out]; simpa using HO3.out, HB3.out⟩, by simp [intOf]; omega⟩
    · obtain rfl : k = R.length := by omega
      have hd : decide ((R.length : Int) < (R.length : Int)) = false := by rw [decide_eq_false_iff_not]; omega
      clear own hbl
      go_wp2_with fail
      refine bodyPost_ret (v := .slice B R.length c2) (by simp [results, Tryz.results48, go_sem]) rfl ?_
      have own := Ho.out
      rw [List.take_of_length_le (by simp)] at own
      exact ⟨B, c2, rfl, HBL.out, own⟩
theorem tick_S (t : Int) (w : World) : Calls Tryz.prog 40 #[.int .i64 t] w fun e w' => e = .returned (.bool (inB t 0 1000000)) ∧ w = w' := by
  go_enter Tryz.func40, Tryz.ntmps40
  go_wp2_with (go_at_call 39; refine (in_S _ _ _ _).mono ?_; rintro e w' ⟨rfl, rfl⟩)
  go_ret
  exact ⟨rfl, rfl⟩
set_option maxHeartbeats 1000000 in
theorem until_S (A : Option Addr) (c1 : Nat) (R : List Wn) (A' : Option Addr) (c1' : Nat) (R' : List Wn) (n : Nat) (u : Int) (w : World) (h : SlA Wn.enc 4 w A R) (h' : SlA Wn.enc 4 w A' R') (hl : R.length = n) (hl' : R'.length = n) (hn : n ≤ 1048576) :
    Calls Tryz.prog 42 #[.slice A n c1, .slice A' n c1', .int .i64 u] w fun e w' => e = .returned (.bool (stillB u R R' n)) ∧ w = w' := by
  have HL := hid hl
  have HL' := hid hl'
  clear hl hl'
  go_enter Tryz.func42, Tryz.ntmps42
  go_wp2_with fail
  go_loop [7] (fun iv => ∃ k : Nat, k ≤ n ∧ iv = .int .i64 k ∧ stillB u R R' k = true) (fun iv => n - (intOf iv).toNat)
  case atStart => exact ⟨0, Nat.zero_le _, rfl, rfl⟩
  case round =>
    obtain ⟨k, hk, rfl, hst⟩ := hrel
    have HST := hid hst
    clear hst
    by_cases hlt : k < n
    · have hd : decide ((k : Int) < (n : Int)) = true := by rw [decide_eq_true_iff]; omega
      have hki : (k : Int) < (n : Int) := by omega
      obtain ⟨b1, o1, rfl, hb1, hc1⟩ := h.cells (by have := HL.out; omega)
      obtain ⟨b2, o2, rfl, hb2, hc2⟩ := h'.cells (by have := HL'.out; omega)
      obtain ⟨p, hp⟩ : ∃ p, R[k]? = some p := ⟨_, List.getElem?_eq_getElem (by have := HL.out; omega)⟩
      obtain ⟨q, hq⟩ : ∃ q, R'[k]? = some q := ⟨_, List.getElem?_eq_getElem (by have := HL'.out; omega)⟩
      have f1 : w.cell? ⟨b1, o1 + k * 4 + 1, none⟩ = some (.bool p.su) := hc1 k _ hp 1 _ rfl
      have f3 : w.cell? ⟨b1, o1 + k * 4 + 3, none⟩ = some (.int .i64 p.la) := hc1 k _ hp 3 _ rfl
      have g1 : w.cell? ⟨b2, o2 + k * 4 + 1, none⟩ = some (.bool q.su) := hc2 k _ hq 1 _ rfl
      have g3 : w.cell? ⟨b2, o2 + k * 4 + 3, none⟩ = some (.int .i64 q.la) := hc2 k _ hq 3 _ rfl
      have hstep := stillB_step (u := u) hp hq
      rw [HST.out] at hstep
      unfold inT at hstep
      clear hp hq hc1 hc2
      obtain ⟨si, su, ea, la⟩ := p
      obtain ⟨si', su', ea', la'⟩ := q
      dsimp only at f1 f3 g1 g3 hstep
      obtain ⟨d, hdl⟩ : ∃ d, decide (la ≤ u) = d := ⟨_, rfl⟩
      obtain ⟨d', hdl'⟩ : ∃ d, decide (la' ≤ u) = d := ⟨_, rfl⟩
      have hgt1 : decide (la' > u) = !d' := by rw [← hdl']; by_cases h0 : la' ≤ u <;> simp [h0]; omega
      have hgt2 : decide (u < la') = !d' := hgt1
      rw [hdl, hdl'] at hstep
      have HS := hid hstep
      clear hstep
      cases su
      · go_wp2_with fail
        exact ⟨⟨k + 1, by omega, by go_num, by rw [HS.out]; simp⟩, by simp [intOf]; omega⟩
      · cases d
        · go_wp2_with fail
          exact ⟨⟨k + 1, by omega, by go_num, by rw [HS.out]; simp⟩, by simp [intOf]; omega⟩
        · cases su'
          · go_wp2_with fail
            go_ret
            exact ⟨ret_bool (stillB_mono (k := k + 1) (by omega) (by rw [HS.out]; simp)).symm, rfl⟩
          · cases d'
            · have hgt3 : u < la' := of_decide_eq_true hgt1
              go_wp2_with fail
              go_ret
              exact ⟨ret_bool (stillB_mono (k := k + 1) (by omega) (by rw [HS.out]; simp)).symm, rfl⟩
            · have hgt3 : ¬ u < la' := of_decide_eq_false hgt1
              go_wp2_with fail
              exact ⟨⟨k + 1, by omega, by go_num, by rw [HS.out]; simp⟩, by simp [intOf]; omega⟩
    · obtain rfl : k = n := by omega
      have hd : decide ((k : Int) < (k : Int)) = false := by rw [decide_eq_false_iff_not]; omega
      go_wp2_with fail
      go_ret
      exact ⟨ret_bool HST.out.symm, rfl⟩
end Go.Proofs.YtnabedhhflfepaaGreat
