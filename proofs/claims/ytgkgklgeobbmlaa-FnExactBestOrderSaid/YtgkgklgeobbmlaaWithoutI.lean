/-
  WithoutPieces: the program's board without some pieces.
  Conditions: the fields are in their kinds' ranges.
-/
import Derived.Test.YtgkgklgeobbmlaaWithout
namespace Go.Proofs.Ytgkgklgeobbmlaa
open Go.RowKit
set_option linter.unusedSimpArgs false
set_option linter.unusedVariables false

theorem with_I (b : Nat) (wi hi : Int) (a : Option Addr) (n c : Nat) (A2 : Option Addr) (n2 c2 : Nat) (w : World) (hb : BdA w b wi hi a n c) :
    Calls Try.prog 75 #[.pointer (some ⟨b, 0, none⟩), .slice A2 n2 c2] w fun e w' => e = .returned (.agg #[.int .i8 wi, .int .i8 hi, .slice A2 n2 c2]) ∧ Below w.heap.size w w' := by
  obtain ⟨g9, g0, g1, g2⟩ := hb
  have HB : ∀ o (n : Nat), Below w.heap.size w ((w.alloc o).drewN n) := fun o n => below_drewN ((Below.refl _ _).alloc (Nat.le_refl _) o) n
  have HB1 := hid HB
  clear HB
  go_enter Try.func75, Try.ntmps75
  go_wp2_with fail
  go_region
  go_wp2_with fail
  refine bodyPost_ret (v := .agg #[.int .i8 wi, .int .i8 hi, .slice A2 n2 c2]) (by simp [results, Try.results75, go_sem]) rfl ⟨rfl, ?_⟩
  first | exact HB1.out _ 1 | exact ((Below.refl _ _).alloc (Nat.le_refl _) _).drew | exact (((Below.refl _ _).alloc (Nat.le_refl _) _).drew.setCell (by simp) _)
end Go.Proofs.Ytgkgklgeobbmlaa
