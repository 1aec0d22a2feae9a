/-
  Gaps: whether a list has a number; which gaps are right for a board; both the program's and the reference's.
  Conditions: the fields are in their kinds' ranges.
-/
import Derived.Test.YtdpheplbbenanaaValidI
import Derived.Test.YtdpheplbbenanaaOb
namespace Go.Proofs.Ytdpheplbbenanaa
open Go.RowKit
set_option linter.unusedSimpArgs false
set_option linter.unusedVariables false

theorem en1_cells {w : World} {a : Option Addr} {xs : List Int} (h : SlA en1 1 w a xs) (hp : 0 < xs.length) : ∃ b o, a = some ⟨b, o, none⟩ ∧ b < w.heap.size ∧ ∀ i p, xs[i]? = some p → w.cell? ⟨b, o + i, none⟩ = some (.int .i64 p) := by
  obtain ⟨b, o, e, hb, hc⟩ := h.cells hp
  exact ⟨b, o, e, hb, fun i p hi => by have := hc i p hi 0 _ rfl; simpa using this⟩
def isN (n x : Int) : Bool := decide (x = n)
def gapAt (m : Nat) (gs : List Int) (k : Nat) : Bool := match gs[k]? with
  | some g => inB g 0 ((m : Int) - 1) && (match k with | 0 => true | j + 1 => decide (gs.getD j 0 < g))
  | none => true
def gapsB (m : Nat) (gs : List Int) : Bool := (List.range gs.length).all (gapAt m gs)
theorem gapsB_true {m : Nat} {gs : List Int} (h : ∀ j, j < gs.length → gapAt m gs j = true) : gapsB m gs = true := by
  unfold gapsB
  simpa using h
theorem gapsB_false {m : Nat} {gs : List Int} {k : Nat} (hk : k < gs.length) (h : gapAt m gs k = false) : gapsB m gs = false := by
  unfold gapsB
  rw [List.all_eq_false]
  exact ⟨k, List.mem_range.2 hk, by simp [h]⟩
def builtG (wi hi : Int) (xs : List Pc) : Int := if bdOk wi hi xs = true then (if 40 < xs.length then 3 else 0) else 1
def gapsG (wi hi : Int) (xs : List Pc) (gs : List Int) : Int := if builtG wi hi xs ≠ 0 then builtG wi hi xs else if gapsB xs.length gs = true then 0 else 2
end Go.Proofs.Ytdpheplbbenanaa
