/-
  Spans: which are some; a list of them looked over; a copy; NarrowSpan, both the program's and the reference's.
  Whether a board that is timed is right, the program's.
  ValidSpans, both the program's and the reference's.
  Conditions: the fields are in their kinds' ranges.
-/
import Derived.Test.YtnabedhhflfepaaSmall
import Derived.Test.YtnabedhhflfepaaValidI
import Derived.Test.YtnabedhhflfepaaApp
namespace Go.Proofs.Ytnabedhhflfepaa
open Go.RowKit
set_option linter.unusedSimpArgs false
set_option linter.unusedVariables false

def spOk (p : Sp) : Bool := decide (1 ≤ p.lo) && decide (p.lo ≤ p.hi) && decide (p.hi ≤ 9)
def timedG (wi hi : Int) (xs : List Pc) (v : Bool) : Int := if (bdOk wi hi xs && v) = true then (if 60 < xs.length then 3 else 0) else 1
theorem timedOk_I (wi hi : Int) (a : Option Addr) (c : Nat) (xs : List Pc) (v : Bool) (w : World) (rw_ : -128 ≤ wi ∧ wi ≤ 127 ∧ -128 ≤ hi ∧ hi ≤ 127) (h : SlA Pc.enc 5 w a xs) (ok : ∀ p ∈ xs, p.Ok) :
    Calls Try.prog 23 #[.agg #[.int .i8 wi, .int .i8 hi, .slice a xs.length c], .bool v] w fun e w' => e = .returned (.int .i64 (timedG wi hi xs v)) ∧ Below w.heap.size w w' := by
  have Ha := hid (fun W (hB : Below w.heap.size w W) => ValidBoard_I wi hi a c xs W rw_ (h.below hB) ok)
  obtain ⟨d1, hd1⟩ : ∃ d1 : Bool, bdOk wi hi xs = d1 := ⟨_, rfl⟩
  rw [hd1] at Ha
  have HG := hid (show timedG wi hi xs v = if (d1 && v) = true then (if 60 < xs.length then 3 else 0) else 1 by unfold timedG; rw [hd1])
  have sa := h.small
  have B0 : ∀ o, Below w.heap.size w (w.alloc o) := fun o => (Below.refl _ _).alloc (Nat.le_refl _) _
  have HB := hid B0
  clear B0 hd1
  go_enter Try.func23, Try.ntmps23
  go_wp2_with fail
  refine (Ha.out _ (HB.out _)).mono ?_
  rintro e w1 ⟨rfl, hb1⟩
  obtain ⟨hc1, hf1⟩ := bcell hb1
  have B1 := below_of (HB.out _) (by simp) hb1
  have hz := hb1.size
  simp only [World.size_alloc] at hz
  have s1 : w.heap.size < w1.heap.size := by omega
  cases d1
  · go_wp2_with fail
    go_ret
    exact ⟨ret_int (by rw [HG.out]; rfl), B1⟩
  · cases v
    · go_wp2_with fail
      go_ret
      exact ⟨ret_int (by rw [HG.out]; rfl), B1⟩
    · by_cases h60 : 60 < xs.length
      · go_wp2_with fail
        go_ret
        exact ⟨ret_int (by rw [HG.out]; simp [h60]), B1⟩
      · go_wp2_with fail
        go_ret
        exact ⟨ret_int (by rw [HG.out]; simp [h60]), B1⟩
def ValidSpansG (wi hi : Int) (xs : List Pc) (ys : List Sp) : Bool := bdOk wi hi xs && (((ys.length : Int) == (xs.length : Int)) && ys.all spOk)
theorem any_bad (ys : List Sp) : (ys.any fun p => !spOk p) = !ys.all spOk := by
  induction ys with
  | nil => rfl
  | cons y l ih => rw [List.any_cons, List.all_cons, ih]; cases spOk y <;> simp
end Go.Proofs.Ytnabedhhflfepaa
