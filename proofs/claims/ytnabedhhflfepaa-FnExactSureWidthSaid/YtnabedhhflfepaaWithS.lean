/-
  CanFall, MustFall, both the program's and the reference's.
  Conditions: the fields are in their kinds' ranges.
-/
import Derived.Test.YtnabedhhflfepaaWith
namespace Go.Proofs.Ytnabedhhflfepaa
open Go.RowKit
set_option linter.unusedSimpArgs false
set_option linter.unusedVariables false

def CanFallP (p : Wn) : Bool := p.si != 0
def CanFallG (wi hi : Int) (xs : List Pc) (ps : List Pu) (ss : List Sp) : List Int × Int := withG CanFallP wi hi xs ps ss
theorem CanFall_len (wi hi : Int) (xs : List Pc) (ps : List Pu) (ss : List Sp) (h : xs.length ≤ 1048576) : (CanFallG wi hi xs ps ss).1.length ≤ 1048576 := with_len _ _ _ _ _ _ h
def MustFallP (p : Wn) : Bool := p.su
def MustFallG (wi hi : Int) (xs : List Pc) (ps : List Pu) (ss : List Sp) : List Int × Int := withG MustFallP wi hi xs ps ss
theorem MustFall_len (wi hi : Int) (xs : List Pc) (ps : List Pu) (ss : List Sp) (h : xs.length ≤ 1048576) : (MustFallG wi hi xs ps ss).1.length ≤ 1048576 := with_len _ _ _ _ _ _ h
end Go.Proofs.Ytnabedhhflfepaa
