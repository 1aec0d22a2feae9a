/-
  The reference's clock: the neighbour of a piece; what l06Begin lays.
  Conditions: the pieces, pushes and spans are right.
-/
import Derived.Test.YthhfndifcdiomaaGreatWin
import Derived.Test.YthhfndifcdiomaaGreatCells
import Derived.Deep.CutRange
import Derived.Deep.RegionLaw
namespace Go.Proofs.YthhfndifcdiomaaGreat
open Go.RowKit
set_option linter.unusedSimpArgs false
set_option linter.unusedVariables false

set_option maxRecDepth 100000 in
theorem near_S (b : Nat) (wi hi : Int) (a : Option Addr) (c : Nat) (xs : List Pc) (i s : Nat) (w : World) (hb : BdA w b wi hi a xs.length c) (h : SlA Pc.enc 5 w a xs) (hn : xs.length ≤ 60) (hx : i < xs.length) (hs : s < 4) (ok : ∀ p ∈ xs, (0 ≤ p.x ∧ p.x ≤ 23) ∧ (0 ≤ p.y ∧ p.y ≤ 23)) :
    Calls Tryz.prog 124 #[.pointer (some ⟨b, 0, none⟩), .int .i64 i, .int .i64 s] w fun e w' => e = .returned (.int .i64 (nearI xs i s)) ∧ Below w.heap.size w w' := by
  obtain ⟨b1, o1, ha, hb1, hc1⟩ := h.cells (by omega)
  have e1 : xs[i]? = some xs[i] := List.getElem?_eq_getElem hx
  have okp := ok _ (List.getElem_mem hx)
  have HV := hid (show nearI xs i s = idxOf (atC (nx xs[i].x s) (ny xs[i].y s)) xs by unfold nearI; rw [e1])
  have f0 : w.cell? ⟨b1, o1 + i * 5, none⟩ = some (.int .i8 xs[i].x) := hc1 i _ e1 0 _ rfl
  have f1 : w.cell? ⟨b1, o1 + i * 5 + 1, none⟩ = some (.int .i8 xs[i].y) := hc1 i _ e1 1 _ rfl
  generalize xs[i] = q at *
  have hi1 : (i : Int) < (xs.length : Int) := by omega
  have Hb := hid hb
  have Hh := hid h
  obtain ⟨g9, g0, g1, g2⟩ := hb
  have HN := hid (fun W => next_S q.x q.y s W (by omega) (by omega))
  rw [ha] at g2
  clear e1 hc1 h ok
  go_enter Tryz.func124, Tryz.ntmps124
  go_wp2_with fail
  refine (HN.out _).mono ?_
  rintro e w1 ⟨rfl, hb1'⟩
  go_wp2_with fail
  refine (find_S b wi hi a c xs (nx q.x s) (ny q.y s) w1 (Hb.out.below hb1' Hb.out.lt) (Hh.out.below hb1')).mono ?_
  rintro e w2 ⟨rfl, hb2⟩
  go_wp2_with fail
  go_ret
  exact ⟨ret_int HV.out.symm, below_then hb1' hb2⟩
theorem fz_made (W : World) (o : Array Value) (t : TypeId) : Fz (W.alloc (.cells o t)) W.heap.size := fun j => by simp [go_sem]
end Go.Proofs.YthhfndifcdiomaaGreat
