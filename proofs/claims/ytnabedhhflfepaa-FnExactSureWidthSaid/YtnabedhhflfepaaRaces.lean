/-
  Whether a window tells of a race, the program's.
  Conditions: the sides are four bits.
-/
import Derived.Test.YtnabedhhflfepaaWithS
namespace Go.Proofs.Ytnabedhhflfepaa
open Go.RowKit
set_option linter.unusedSimpArgs false
set_option linter.unusedVariables false

def RacesOfP (p : Wn) : Bool := (!([0, 1, 2, 4, 8] : List Int).contains p.si) || (p.si != 0 && !p.su)
set_option maxHeartbeats 2000000 in
theorem isRace_I (p : Wn) (hs : 0 ≤ p.si ∧ p.si ≤ 15) (w : World) : Calls Try.prog 29 #[.agg p.enc.toArray] w fun e w' => e = .returned (.bool (RacesOfP p)) ∧ Below w.heap.size w w' := by
  have B0 : ∀ o, Below w.heap.size w (w.alloc o) := fun o => (Below.refl _ _).alloc (Nat.le_refl _) o
  show Calls Try.prog 29 #[.agg #[.int .u8 p.si, .bool p.su, .int .i64 p.ea, .int .i64 p.la]] w _
  obtain ⟨si, su, ea, la⟩ := p
  dsimp only at hs
  have h16 : si = 0 ∨ si = 1 ∨ si = 2 ∨ si = 3 ∨ si = 4 ∨ si = 5 ∨ si = 6 ∨ si = 7 ∨ si = 8 ∨ si = 9 ∨ si = 10 ∨ si = 11 ∨ si = 12 ∨ si = 13 ∨ si = 14 ∨ si = 15 := by omega
  clear hs
  rcases h16 with rfl | rfl | rfl | rfl | rfl | rfl | rfl | rfl | rfl | rfl | rfl | rfl | rfl | rfl | rfl | rfl
  all_goals cases su
  all_goals (
    go_enter Try.func29, Try.ntmps29
    go_wp2_with fail
    go_ret
    refine ⟨?_, B0 _⟩
    first | rfl | exact ret_bool (by decide))
def RacesOfG (wi hi : Int) (xs : List Pc) (ps : List Pu) (ss : List Sp) : List Int × Int := withG RacesOfP wi hi xs ps ss
theorem RacesOf_len (wi hi : Int) (xs : List Pc) (ps : List Pu) (ss : List Sp) (h : xs.length ≤ 1048576) : (RacesOfG wi hi xs ps ss).1.length ≤ 1048576 := with_len _ _ _ _ _ _ h
end Go.Proofs.Ytnabedhhflfepaa
