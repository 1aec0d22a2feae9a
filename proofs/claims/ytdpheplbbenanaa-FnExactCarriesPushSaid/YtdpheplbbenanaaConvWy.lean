/-
  The laws' own helpers over Way: copies, sizes, comparisons, marks.
  Conditions: lengths up to a bound where memory is made.
-/
import Derived.Test.YtdpheplbbenanaaProg
import Derived.Test.YtdpheplbbenanaaData
import Derived.Test.YtdpheplbbenanaaConvBd
namespace Go.Proofs.Ytdpheplbbenanaa
open Go.RowKit
set_option linter.unusedSimpArgs false

theorem to_Wy_L (p : Wy) (w : World) :
    Calls Try.prog 7 #[.agg p.enc.toArray] w fun e w' => e = .returned (.agg p.enc.toArray) ∧ Below w.heap.size w w' := by
  obtain ⟨fx_, fy_, sd_, tx_, ty_, ou_⟩ := p
  simp only [Wy.enc] at *
  go_enter Try.func7, Try.ntmps7
  go_wp2_with fail
  refine (to_Ce_L fx_ fy_ _).mono ?_
  rintro e w0 ⟨rfl, hb0⟩
  have hz0 := hb0.size
  simp only [World.size_alloc, World.size_setCell] at hz0
  obtain ⟨hc0, hf0⟩ := bcell hb0
  have s01 : w.heap.size < w0.heap.size := by omega
  have s02 : w.heap.size + 1 < w0.heap.size := by omega
  have s03 : w.heap.size + 1 + 1 < w0.heap.size := by omega
  go_wp2_with fail
  refine (to_Ce_L tx_ ty_ _).mono ?_
  rintro e w1 ⟨rfl, hb1⟩
  have hz1 := hb1.size
  simp only [World.size_alloc, World.size_setCell] at hz1
  obtain ⟨hc1, hf1⟩ := bcell hb1
  have s11 : w.heap.size < w1.heap.size := by omega
  have s12 : w.heap.size + 1 < w1.heap.size := by omega
  have s13 : w.heap.size + 1 + 1 < w1.heap.size := by omega
  go_wp2_with fail
  refine bodyPost_ret (v := .agg #[.int .i8 fx_, .int .i8 fy_, .int .i8 sd_, .int .i8 tx_, .int .i8 ty_, .int .i8 ou_]) (by simp [results, Try.results7, go_sem, hc0, s01, s02, s03, hc1, s11, s12, s13]) rfl ⟨rfl, ?_⟩
  repeat (refine Below.setCell ?_ (by simp; try omega) _)
  refine below_of ?_ (by simp; omega) hb1
  repeat (refine Below.setCell ?_ (by simp; try omega) _)
  exact below_of ((((Below.refl _ _).alloc (Nat.le_refl _) _).alloc (by simp) _).alloc (by simp; omega) _) (by simp; omega) hb0
-- eq of Wy: by hand
end Go.Proofs.Ytdpheplbbenanaa
