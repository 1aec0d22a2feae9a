/-
  Whether a list has a cell; both the program's and the reference's.
  Conditions: none.
-/
import Derived.Test.YtgkgklgeobbmlaaAt
namespace Go.Proofs.Ytgkgklgeobbmlaa
open Go.RowKit
set_option linter.unusedSimpArgs false
set_option linter.unusedVariables false

set_option maxHeartbeats 400000 in
theorem hasC_S (a : Option Addr) (c : Nat) (xs : List Ce) (x y : Int) (w : World) (h : SlA Ce.enc 2 w a xs) :
    Calls Try.prog 90 #[.slice a xs.length c, .agg #[.int .i8 x, .int .i8 y]] w fun e w' => e = .returned (.bool (xs.any (isC x y))) ∧ Below w.heap.size w w' := by
  have sa := h.small
  have HB : ∀ o, Below w.heap.size w (w.alloc o) := fun o => (Below.refl _ _).alloc (Nat.le_refl _) _
  go_enter Try.func90, Try.ntmps90
  go_wp2_with fail
  go_loopw [5] (fun i wr => ∃ k : Nat, k ≤ xs.length ∧ i = .int .i64 k ∧ (xs.take k).any (isC x y) = false ∧ Below w.heap.size w wr ∧ wr.cell? ⟨w.heap.size, 0, none⟩ = some (.int .i8 x) ∧ wr.cell? ⟨w.heap.size, 1, none⟩ = some (.int .i8 y) ∧ w.heap.size < wr.heap.size) (fun i _ => xs.length - (intOf i).toNat)
  case atStart => exact ⟨0, Nat.zero_le _, rfl, rfl, (HB _), by simp [go_sem], by simp [go_sem], by simp⟩
  case round =>
    obtain ⟨k, hk, rfl, ht, hbl, hx, hy, hsz⟩ := hrel
    by_cases hlt : k < xs.length
    · obtain ⟨b1, o1, rfl, hb1, hc1⟩ := h.cells (by omega)
      have e1 : xs[k]? = some xs[k] := List.getElem?_eq_getElem hlt
      have Hp := hid e1
      have HT := hid ht
      clear ht e1
      generalize xs[k] = p at *
      have f0 : wr.cell? ⟨b1, o1 + k * 2, none⟩ = some (.int .i8 p.x) := (hbl.cell (p := ⟨b1, _, none⟩) hb1).trans (hc1 k _ Hp.out 0 _ rfl)
      have f1 : wr.cell? ⟨b1, o1 + k * 2 + 1, none⟩ = some (.int .i8 p.y) := (hbl.cell (p := ⟨b1, _, none⟩) hb1).trans (hc1 k _ Hp.out 1 _ rfl)
      have hg : Try.prog.eqGuardType Try.prog.depth 36 = false := by kernel_rfl
      have heq := fun W => eql_Ce p.x p.y x y W
      obtain ⟨d1, hd⟩ : ∃ d1 : Bool, decide (p.x = x ∧ p.y = y) = d1 := ⟨_, rfl⟩
      simp only [hd] at heq
      have Hd := hid (show isC x y p = d1 from hd)
      clear hd hc1
      go_wp2_with fail
      go_quiet (fail)
      clear heq hg
      cases d1
      · go_wp2_with fail
        exact ⟨⟨k + 1, by omega, by go_num, any_step HT.out Hp.out Hd.out, below_drewN hbl _, by simpa using hx, by simpa using hy, by simpa using hsz⟩, by simp [intOf]; omega⟩
      · go_wp2_with fail
        go_ret
        refine ⟨ret_bool ?_, below_drewN hbl _⟩
        rw [eq_comm, List.any_eq_true]
        exact ⟨p, List.mem_of_getElem? Hp.out, Hd.out⟩
    · obtain rfl : k = xs.length := by omega
      have HT := hid ht
      clear ht
      go_wp2_with fail
      go_ret
      refine ⟨ret_bool ?_, hbl⟩
      have := HT.out
      rw [List.take_length] at this
      exact this.symm
set_option maxHeartbeats 400000 in
theorem indexC_I (a : Option Addr) (c : Nat) (xs : List Ce) (x y : Int) (w : World) (h : SlA Ce.enc 2 w a xs) :
    Calls Try.prog 98 #[.slice a xs.length c, .agg #[.int .i8 x, .int .i8 y]] w fun e w' => e = .returned (.int .i64 (idxOf (isC x y) xs)) ∧ Below w.heap.size w w' := by
  have sa := h.small
  have HB : ∀ o, Below w.heap.size w (w.alloc o) := fun o => (Below.refl _ _).alloc (Nat.le_refl _) _
  go_enter Try.func98, Try.ntmps98
  go_wp2_with fail
  go_loopw [8] (fun i wr => ∃ k : Nat, k ≤ xs.length ∧ i = .int .i64 k ∧ (xs.take k).any (isC x y) = false ∧ Below w.heap.size w wr ∧ wr.cell? ⟨w.heap.size, 0, none⟩ = some (.int .i8 x) ∧ wr.cell? ⟨w.heap.size, 1, none⟩ = some (.int .i8 y) ∧ w.heap.size < wr.heap.size) (fun i _ => xs.length - (intOf i).toNat)
  case atStart => exact ⟨0, Nat.zero_le _, rfl, rfl, (HB _), by simp [go_sem], by simp [go_sem], by simp⟩
  case round =>
    obtain ⟨k, hk, rfl, ht, hbl, hx, hy, hsz⟩ := hrel
    by_cases hlt : k < xs.length
    · obtain ⟨b1, o1, rfl, hb1, hc1⟩ := h.cells (by omega)
      have e1 : xs[k]? = some xs[k] := List.getElem?_eq_getElem hlt
      have Hp := hid e1
      have HT := hid ht
      clear ht e1
      generalize xs[k] = p at *
      have f0 : wr.cell? ⟨b1, o1 + k * 2, none⟩ = some (.int .i8 p.x) := (hbl.cell (p := ⟨b1, _, none⟩) hb1).trans (hc1 k _ Hp.out 0 _ rfl)
      have f1 : wr.cell? ⟨b1, o1 + k * 2 + 1, none⟩ = some (.int .i8 p.y) := (hbl.cell (p := ⟨b1, _, none⟩) hb1).trans (hc1 k _ Hp.out 1 _ rfl)
      have hg : Try.prog.eqGuardType Try.prog.depth 36 = false := by kernel_rfl
      have heq := fun W => eql_Ce x y p.x p.y W
      obtain ⟨d1, hd⟩ : ∃ d1 : Bool, decide (x = p.x ∧ y = p.y) = d1 := ⟨_, rfl⟩
      simp only [hd] at heq
      have Hd := hid (show isC x y p = d1 by rw [← hd]; unfold isC; rw [decide_eq_decide]; constructor <;> (rintro ⟨h1, h2⟩; exact ⟨h1.symm, h2.symm⟩))
      clear hd hc1
      go_wp2_with fail
      go_quiet (fail)
      clear heq hg
      cases d1
      · go_wp2_with fail
        exact ⟨⟨k + 1, by omega, by go_num, any_step HT.out Hp.out Hd.out, below_drewN hbl _, by simpa using hx, by simpa using hy, by simpa using hsz⟩, by simp [intOf]; omega⟩
      · go_wp2_with fail
        go_ret
        exact ⟨ret_int (idxOf_at HT.out Hp.out Hd.out).symm, below_drewN hbl _⟩
    · obtain rfl : k = xs.length := by omega
      have HT := hid ht
      clear ht
      go_wp2_with fail
      go_ret
      refine ⟨ret_int ?_, hbl⟩
      have := HT.out
      rw [List.take_length] at this
      exact (idxOf_none this).symm
theorem containsC_I (a : Option Addr) (c : Nat) (xs : List Ce) (x y : Int) (w : World) (h : SlA Ce.enc 2 w a xs) :
    Calls Try.prog 72 #[.slice a xs.length c, .agg #[.int .i8 x, .int .i8 y]] w fun e w' => e = .returned (.bool (xs.any (isC x y))) ∧ Below w.heap.size w w' := by
  have HB : ∀ o, Below w.heap.size w (w.alloc o) := fun o => (Below.refl _ _).alloc (Nat.le_refl _) _
  have Hs := hid (fun o => indexC_I a c xs x y (w.alloc o) (h.below (HB o)))
  have Hr := hid (idxOf_ge (isC x y) xs)
  generalize idxOf (isC x y) xs = v at *
  have HB1 := hid HB
  clear HB
  go_enter Try.func72, Try.ntmps72
  go_wp2_with fail
  refine (Hs.out _).mono ?_
  rintro e w1 ⟨rfl, hb⟩
  go_wp2_with fail
  go_ret
  exact ⟨ret_bool Hr.out, below_of (HB1.out _) (by simp) hb⟩
end Go.Proofs.Ytgkgklgeobbmlaa
