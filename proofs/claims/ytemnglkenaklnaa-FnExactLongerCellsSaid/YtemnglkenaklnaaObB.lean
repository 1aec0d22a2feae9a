/-
  A cell in a block above a row that is written.
  Conditions: none; general lemmas.
-/
import Derived.Test.YtemnglkenaklnaaOb
namespace Go.Proofs.Ytemnglkenaklnaa
open Go.RowKit

theorem cell_mark2 {α : Type} {enc : α → List Value} {n : Nat} {E : TypeId} {b0 lo hi : Nat} {w w1 : World} {A : Option Addr} {c : Nat} {xs : List α} (h : Ob enc n E b0 lo hi w A c xs) {a : Addr} {v : Value} (hc : w.cell? a = some v) (hg : w.grownBy w1 (A.map (·.block))) (hne : hi ≤ a.block) : w1.cell? a = some v := by
  refine hg.cell hc fun e => ?_
  have := h.lt _ e.symm
  omega
end Go.Proofs.Ytemnglkenaklnaa
