/-
  Cells: the cell beside another one; whether a list has a cell; both the program's and the reference's.
  Conditions: the numbers lie between -100 and 100.
-/
import Derived.Test.YtgkgklgeobbmlaaValidI
namespace Go.Proofs.Ytgkgklgeobbmlaa
open Go.RowKit
set_option linter.unusedSimpArgs false
set_option linter.unusedVariables false

def nx (x s : Int) : Int := if s = 1 then x + 1 else if s = 3 then x - 1 else x
def ny (y s : Int) : Int := if s = 0 then y - 1 else if s = 2 then y + 1 else y
def isC (x y : Int) (c : Ce) : Bool := decide (c.x = x ∧ c.y = y)
theorem next_S (x y s : Int) (w : World) (h0 : -100 ≤ x ∧ x ≤ 100 ∧ -100 ≤ y ∧ y ≤ 100) (h1 : 0 ≤ s ∧ s ≤ 3) :
    Calls Try.prog 54 #[.agg #[.int .i8 x, .int .i8 y], .int .i64 s] w fun e w' => e = .returned (.agg #[.int .i8 (nx x s), .int .i8 (ny y s)]) ∧ Below w.heap.size w w' := by
  obtain ⟨_, _, _, _⟩ := h0
  obtain rfl | rfl | rfl | rfl : s = 0 ∨ s = 1 ∨ s = 2 ∨ s = 3 := by omega
  all_goals (
    go_enter Try.func54, Try.ntmps54
    go_wp2
    refine bodyPost_ret (by simp [results, Try.results54, go_sem]; rfl) rfl ⟨by simp [nx, ny], ?_⟩
    repeat (refine Below.setCell ?_ (by simp; try omega) _)
    exact ((Below.refl _ _).alloc (Nat.le_refl _) _).alloc (by simp) _)
theorem idx4_0 (W : World) : (Instr.index 131 (.agg #[.int .i8 0, .int .i8 (-1), .int .i8 1, .int .i8 0, .int .i8 0, .int .i8 1, .int .i8 (-1), .int .i8 0]) (.int .i64 0)).run Try.prog W = .ok (.agg #[.int .i8 0, .int .i8 (-1)]) W := by kernel_rfl
theorem idx4_1 (W : World) : (Instr.index 131 (.agg #[.int .i8 0, .int .i8 (-1), .int .i8 1, .int .i8 0, .int .i8 0, .int .i8 1, .int .i8 (-1), .int .i8 0]) (.int .i64 1)).run Try.prog W = .ok (.agg #[.int .i8 1, .int .i8 0]) W := by kernel_rfl
theorem idx4_2 (W : World) : (Instr.index 131 (.agg #[.int .i8 0, .int .i8 (-1), .int .i8 1, .int .i8 0, .int .i8 0, .int .i8 1, .int .i8 (-1), .int .i8 0]) (.int .i64 2)).run Try.prog W = .ok (.agg #[.int .i8 0, .int .i8 1]) W := by kernel_rfl
theorem idx4_3 (W : World) : (Instr.index 131 (.agg #[.int .i8 0, .int .i8 (-1), .int .i8 1, .int .i8 0, .int .i8 0, .int .i8 1, .int .i8 (-1), .int .i8 0]) (.int .i64 3)).run Try.prog W = .ok (.agg #[.int .i8 (-1), .int .i8 0]) W := by kernel_rfl
set_option maxRecDepth 100000 in
theorem next_I (x y s : Int) (w : World) (h0 : -100 ≤ x ∧ x ≤ 100 ∧ -100 ≤ y ∧ y ≤ 100) (h1 : 0 ≤ s ∧ s ≤ 3) :
    Calls Try.prog 68 #[.agg #[.int .i8 x, .int .i8 y], .int .i64 s] w fun e w' => e = .returned (.agg #[.int .i8 (nx x s), .int .i8 (ny y s)]) ∧ Below w.heap.size w w' := by
  obtain ⟨_, _, _, _⟩ := h0
  obtain rfl | rfl | rfl | rfl : s = 0 ∨ s = 1 ∨ s = 2 ∨ s = 3 := by omega
  all_goals (
    have i0 := idx4_0
    have i1 := idx4_1
    have i2 := idx4_2
    have i3 := idx4_3
    go_enter Try.func68, Try.ntmps68
    go_wp2
    refine bodyPost_ret (by simp [results, Try.results68, go_sem]; rfl) rfl ⟨by simp [nx, ny]; try omega, ?_⟩
    repeat (refine Below.setCell ?_ (by simp; try omega) _)
    exact (((Below.refl _ _).alloc (Nat.le_refl _) _).alloc (by simp) _).alloc (by simp; omega) _)
def freeG (wi hi : Int) (xs : List Pc) (x y : Int) : Bool := cellIn x y wi hi && !xs.any (atC x y)
theorem find_neg (xs : List Pc) (x y : Int) : decide (idxOf (atC x y) xs < 0) = !xs.any (atC x y) := by
  rw [← idxOf_ge, ← decide_not, decide_eq_decide]
  omega
theorem free_S (b : Nat) (wi hi : Int) (a : Option Addr) (c : Nat) (xs : List Pc) (x y : Int) (w : World) (rw_ : -128 ≤ wi ∧ wi ≤ 127 ∧ -128 ≤ hi ∧ hi ≤ 127) (rc : -128 ≤ x ∧ x ≤ 127 ∧ -128 ≤ y ∧ y ≤ 127) (hb : BdA w b wi hi a xs.length c) (h : SlA Pc.enc 5 w a xs) :
    Calls Try.prog 64 #[.pointer (some ⟨b, 0, none⟩), .agg #[.int .i8 x, .int .i8 y]] w fun e w' => e = .returned (.bool (freeG wi hi xs x y)) ∧ Below w.heap.size w w' := by
  obtain ⟨W0, hW0⟩ : ∃ W, W = w.alloc (Obj.cells #[.int .i8 x, .int .i8 y] 36) := ⟨_, rfl⟩
  have B0 : Below w.heap.size w W0 := by rw [hW0]; exact (Below.refl _ _).alloc (Nat.le_refl _) _
  have hz0 : w.heap.size < W0.heap.size := by rw [hW0]; simp
  have c0 : W0.cell? ⟨w.heap.size, 0, none⟩ = some (.int .i8 x) := by rw [hW0]; simp
  have c1 : W0.cell? ⟨w.heap.size, 1, none⟩ = some (.int .i8 y) := by rw [hW0]; simp
  have hb0 := hb.below B0 hb.lt
  have Hc := hid (fun (X : Later W0) => cellIn_S x y wi hi X.w rc rw_)
  have Hf := hid (fun (X : Later W0) => find_S b wi hi a c xs x y X.w (hb0.below X.below hb0.lt) (h.below (B0.trans (X.below.mono (by omega)))))
  have hn := find_neg xs x y
  obtain ⟨d1, hd1⟩ : ∃ d1 : Bool, cellIn x y wi hi = d1 := ⟨_, rfl⟩
  obtain ⟨d2, hd2⟩ : ∃ d2 : Bool, (!xs.any (atC x y)) = d2 := ⟨_, rfl⟩
  have HG := hid (show freeG wi hi xs x y = (d1 && d2) by unfold freeG; rw [hd1, hd2])
  rw [hd1] at Hc
  rw [hd2] at hn
  generalize idxOf (atC x y) xs = v at *
  obtain ⟨g9, g0, g1, g2⟩ := hb0
  obtain ⟨r0, r1, r2, r3⟩ := rw_
  have HB := hid B0
  clear hd1 hd2 B0
  have hL := @later_cell W0
  have hcs : d1 = false ∨ (d1 = true ∧ d2 = false) ∨ (d1 = true ∧ d2 = true) := by cases d1 <;> cases d2 <;> simp
  rcases hcs with rfl | ⟨rfl, rfl⟩ | ⟨rfl, rfl⟩
  all_goals (
    go_enter Try.func64, Try.ntmps64
    go_wp2_with fail
    rw [← hW0]
    clear hW0
    refine wp_region_later (by kernel_rfl) (by kernel_rfl) ?_
    repeat (first | go_big_quiet_skip | (go_big_quiet_want; go_big_quiet_op; first | go_big_quiet_on | (apply Exists.intro; refine ⟨fun _ => ?_, ?_⟩; (first | (go_at_call 62; exact quiet_later (Hc.out _)) | (go_at_call 63; exact quiet_later (Hf.out _))); go_big_quiet_on)))
    refine wpQuiet_nil ?_
    rintro ⟨w1, hb1⟩
    dsimp only
    go_wp2_with fail
    go_ret
    exact ⟨ret_bool (by rw [HG.out]; rfl), below_of HB.out (by omega) hb1⟩)
end Go.Proofs.Ytgkgklgeobbmlaa
