/-
  FitsWindow, both the program's and the reference's.
  Conditions: the arguments' fields are in their kinds' ranges.
-/
import Derived.Test.YtnoiendelcidbaaSmall
namespace Go.Proofs.Ytnoiendelcidbaa
open Go.RowKit

def fits (si : Int) (su : Bool) (ea la ti fr : Int) : Bool :=
  if ti < 0 then !su else inB fr 0 3 && decide (si / 2 ^ fr.toNat % 2 = 1) && decide (ea ≤ ti) && (!su || decide (ti ≤ la))
set_option maxHeartbeats 400000 in
theorem FitsWindow_S (p : Wn) (q : Fa) (w : World) (hp : p.Ok) (hq : q.Ok) :
    Calls Try.prog 12 #[.agg p.enc.toArray, .agg q.enc.toArray] w fun e w' => e = .returned (.bool (fits p.si p.su p.ea p.la q.ti q.fr)) ∧ Below w.heap.size w w' := by
  obtain ⟨si, su, ea, la⟩ := p
  obtain ⟨ti, fr, by_⟩ := q
  obtain ⟨h0, h1, _, _, _, _⟩ := hp
  obtain ⟨_, _, h2, h3, _, _⟩ := hq
  simp only [Wn.enc, Fa.enc] at *
  have HS := hid (shr_eq si fr h0 (by omega))
  go_enter Try.func12, Try.ntmps12
  go_wp2_with (go_at_call 56; refine (side_S _ _).mono ?_; rintro e w' ⟨rfl, rfl⟩)
  all_goals go_ret
  all_goals refine ⟨ret_bool ?_, ((Below.refl _ _).alloc (Nat.le_refl _) _).alloc (by simp) _⟩
  all_goals (try rw [HS.out (by assumption)] at *)
  all_goals (simp only [fits])
  all_goals (by_cases hti : ti < 0 <;> simp_all <;> (first | omega | (rw [if_neg (by omega)]; intro _; omega)))
set_option maxHeartbeats 400000 in
theorem FitsWindow_I (p : Wn) (q : Fa) (w : World) (hp : p.Ok) (hq : q.Ok) :
    Calls Try.prog 15 #[.agg p.enc.toArray, .agg q.enc.toArray] w fun e w' => e = .returned (.bool (fits p.si p.su p.ea p.la q.ti q.fr)) ∧ Below w.heap.size w w' := by
  obtain ⟨si, su, ea, la⟩ := p
  obtain ⟨ti, fr, by_⟩ := q
  obtain ⟨h0, h1, _, _, _, _⟩ := hp
  obtain ⟨_, _, h2, h3, _, _⟩ := hq
  simp only [Wn.enc, Fa.enc] at *
  have h1' : si < 256 := by omega
  by_cases hs : inB fr 0 3 = true
  · have hs' := hs
    simp only [inB, Bool.and_eq_true, decide_eq_true_eq] at hs'
    obtain ⟨f0, f1⟩ := hs'
    go_enter Try.func15, Try.ntmps15
    go_wp2_with (first | (go_at_call 57; refine (side_I _ _).mono ?_; rintro e w' ⟨rfl, rfl⟩) | (go_at_call 58; refine (has_I _ _ _ h0 h1' f0 f1).mono ?_; rintro e w' ⟨rfl, rfl⟩))
    all_goals go_ret
    all_goals refine ⟨ret_bool ?_, ((Below.refl _ _).alloc (Nat.le_refl _) _).alloc (by simp) _⟩
    all_goals (simp only [fits])
    all_goals (by_cases hti : ti < 0 <;> simp_all <;> (first | omega | (rw [if_neg (by omega)]; intro _; omega)))
  · have hs' : inB fr 0 3 = false := by simpa using hs
    go_enter Try.func15, Try.ntmps15
    go_wp2_with (go_at_call 57; refine (side_I _ _).mono ?_; rintro e w' ⟨rfl, rfl⟩)
    all_goals go_ret
    all_goals refine ⟨ret_bool ?_, ((Below.refl _ _).alloc (Nat.le_refl _) _).alloc (by simp) _⟩
    all_goals (simp only [fits])
    all_goals (by_cases hti : ti < 0 <;> simp_all <;> (first | omega | (rw [if_neg (by omega)]; intro _; omega)))
end Go.Proofs.Ytnoiendelcidbaa
