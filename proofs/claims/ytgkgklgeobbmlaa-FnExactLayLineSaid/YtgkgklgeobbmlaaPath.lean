/-
  Paths: the side of a cell on which another one is; which cells are those of a line; both the program's and the reference's.
  Conditions: the numbers lie between -100 and 100.
-/
import Derived.Test.YtgkgklgeobbmlaaHasC
import Derived.BigQuiet
namespace Go.Proofs.Ytgkgklgeobbmlaa
open Go.RowKit
set_option linter.unusedSimpArgs false
set_option linter.unusedVariables false

def onSide (ax ay cx cy s : Int) : Bool := decide (nx ax s = cx ∧ ny ay s = cy)
def sideG (ax ay cx cy : Int) : Int := if onSide ax ay cx cy 0 = true then 0 else if onSide ax ay cx cy 1 = true then 1 else if onSide ax ay cx cy 2 = true then 2 else if onSide ax ay cx cy 3 = true then 3 else -1
theorem onSide_02 (ax ay cx cy : Int) : onSide ax ay cx cy 0 = onSide cx cy ax ay 2 := by
  unfold onSide; rw [decide_eq_decide]; simp [nx, ny]; omega
theorem onSide_13 (ax ay cx cy : Int) : onSide ax ay cx cy 1 = onSide cx cy ax ay 3 := by
  unfold onSide; rw [decide_eq_decide]; simp [nx, ny]; omega
theorem sideG_neg (ax ay cx cy : Int) : decide (sideG ax ay cx cy < 0) = !(onSide ax ay cx cy 0 || onSide ax ay cx cy 1 || onSide ax ay cx cy 2 || onSide ax ay cx cy 3) := by
  unfold sideG
  generalize onSide ax ay cx cy 0 = b0
  generalize onSide ax ay cx cy 1 = b1
  generalize onSide ax ay cx cy 2 = b2
  generalize onSide ax ay cx cy 3 = b3
  cases b0 <;> cases b1 <;> cases b2 <;> cases b3 <;> rfl
theorem sideG_swap (ax ay cx cy : Int) : decide (sideG ax ay cx cy < 0) = decide (sideG cx cy ax ay < 0) := by
  rw [sideG_neg, sideG_neg, onSide_02 ax ay cx cy, onSide_13 ax ay cx cy, ← onSide_02 cx cy ax ay, ← onSide_13 cx cy ax ay]
  generalize onSide cx cy ax ay 0 = b0
  generalize onSide cx cy ax ay 1 = b1
  generalize onSide cx cy ax ay 2 = b2
  generalize onSide cx cy ax ay 3 = b3
  cases b0 <;> cases b1 <;> cases b2 <;> cases b3 <;> rfl
theorem sideG_at {ax ay cx cy : Int} {k : Nat} (hk : k < 4) (h : ∀ j, j < k → onSide ax ay cx cy (j : Nat) = false) (e : onSide ax ay cx cy (k : Nat) = true) : sideG ax ay cx cy = k := by
  unfold sideG
  have : k = 0 ∨ k = 1 ∨ k = 2 ∨ k = 3 := by omega
  rcases this with rfl | rfl | rfl | rfl
  · have h0 : onSide ax ay cx cy 0 = true := e
    simp [h0]
  · have h0 : onSide ax ay cx cy 0 = false := h 0 (by omega)
    have h1 : onSide ax ay cx cy 1 = true := e
    simp [h0, h1]
  · have h0 : onSide ax ay cx cy 0 = false := h 0 (by omega)
    have h1 : onSide ax ay cx cy 1 = false := h 1 (by omega)
    have h2 : onSide ax ay cx cy 2 = true := e
    simp [h0, h1, h2]
  · have h0 : onSide ax ay cx cy 0 = false := h 0 (by omega)
    have h1 : onSide ax ay cx cy 1 = false := h 1 (by omega)
    have h2 : onSide ax ay cx cy 2 = false := h 2 (by omega)
    have h3 : onSide ax ay cx cy 3 = true := e
    simp [h0, h1, h2, h3]
theorem sideG_none {ax ay cx cy : Int} (h : ∀ j, j < 4 → onSide ax ay cx cy (j : Nat) = false) : sideG ax ay cx cy = -1 := by
  unfold sideG
  have h0 : onSide ax ay cx cy 0 = false := h 0 (by omega)
  have h1 : onSide ax ay cx cy 1 = false := h 1 (by omega)
  have h2 : onSide ax ay cx cy 2 = false := h 2 (by omega)
  have h3 : onSide ax ay cx cy 3 = false := h 3 (by omega)
  simp [h0, h1, h2, h3]
theorem not_step {p : Nat → Bool} {k : Nat} (h : ∀ j, j < k → p j = false) (e : p k = false) : ∀ j, j < k + 1 → p j = false := by
  intro j hj
  rcases Nat.lt_or_ge j k with h1 | h1
  · exact h j h1
  · obtain rfl : j = k := by omega
    exact e
set_option maxRecDepth 100000 in
theorem sideOf_S (ax ay cx cy : Int) (w : World) (h0 : -100 ≤ ax ∧ ax ≤ 100 ∧ -100 ≤ ay ∧ ay ≤ 100) :
    Calls Try.prog 91 #[.agg #[.int .i8 ax, .int .i8 ay], .agg #[.int .i8 cx, .int .i8 cy]] w fun e w' => e = .returned (.int .i64 (sideG ax ay cx cy)) ∧ Below w.heap.size w w' := by
  have HB : ∀ o1 o2, Below w.heap.size w ((w.alloc o1).alloc o2) := fun o1 o2 => ((Below.refl _ _).alloc (Nat.le_refl _) _).alloc (by simp) _
  go_enter Try.func91, Try.ntmps91
  go_wp2_with fail
  go_loopw [5] (fun i wr => ∃ k : Nat, k ≤ 4 ∧ i = .int .i64 k ∧ (∀ j : Nat, j < k → onSide ax ay cx cy (j : Nat) = false) ∧ Below w.heap.size w wr ∧ wr.cell? ⟨w.heap.size, 0, none⟩ = some (.int .i8 ax) ∧ wr.cell? ⟨w.heap.size, 1, none⟩ = some (.int .i8 ay) ∧ wr.cell? ⟨w.heap.size + 1, 0, none⟩ = some (.int .i8 cx) ∧ wr.cell? ⟨w.heap.size + 1, 1, none⟩ = some (.int .i8 cy) ∧ w.heap.size + 1 < wr.heap.size) (fun i _ => 4 - (intOf i).toNat)
  case atStart => exact ⟨0, Nat.zero_le _, rfl, fun j hj => by omega, HB _ _, by simp [go_sem], by simp [go_sem], by simp [go_sem], by simp [go_sem], by simp⟩
  case round =>
    obtain ⟨k, hk, rfl, ht, hbl, a0, a1, c0, c1, hsz⟩ := hrel
    have HT := hid ht
    clear ht
    by_cases hlt : k < 4
    · have Hn := hid (fun (X : Later wr) => next_S ax ay k X.w h0 (by omega))
      have hg : Try.prog.eqGuardType Try.prog.depth 36 = false := by kernel_rfl
      have heq := fun W => eql_Ce (nx ax k) (ny ay k) cx cy W
      obtain ⟨d1, hd⟩ : ∃ d1 : Bool, onSide ax ay cx cy k = d1 := ⟨_, rfl⟩
      simp only [show decide (nx ax k = cx ∧ ny ay k = cy) = d1 from hd] at heq
      have Hd := hid hd
      generalize nx ax k = px at *
      generalize ny ay k = py at *
      have hz := hbl.size
      have h5 : w.heap.size < wr.heap.size := by omega
      clear hd
      have hL := @later_cell wr
      cases d1
      all_goals (
        go_wp2_with fail
        refine wp_region_later (by kernel_rfl) (by kernel_rfl) ?_
        repeat (first | go_big_quiet_skip | (go_big_quiet_want; go_big_quiet_op; first | go_big_quiet_on | (apply Exists.intro; refine ⟨fun _ => ?_, ?_⟩; (go_at_call 54; exact quiet_later (Hn.out _)); go_big_quiet_on)))
        refine wpQuiet_nil ?_
        rintro ⟨w1, hb1⟩
        dsimp only
        have g0 := cell_on hb1 a0
        have g1 := cell_on hb1 a1
        have g2 := cell_on hb1 c0
        have g3 := cell_on hb1 c1
        have hz1 := hb1.size
        clear heq hg hL)
      · go_wp2_with fail
        exact ⟨⟨k + 1, by omega, by go_num, not_step HT.out Hd.out, below_of hbl hz hb1, g0, g1, g2, g3, by omega⟩, by simp [intOf]; omega⟩
      · go_wp2_with fail
        go_ret
        exact ⟨ret_int (sideG_at hlt HT.out Hd.out).symm, below_of hbl hz hb1⟩
    · obtain rfl : k = 4 := by omega
      go_wp2_with fail
      go_ret
      exact ⟨ret_int (sideG_none HT.out).symm, hbl⟩
set_option maxRecDepth 100000 in
theorem toward_I (ax ay cx cy : Int) (w : World) (h0 : -100 ≤ ax ∧ ax ≤ 100 ∧ -100 ≤ ay ∧ ay ≤ 100) :
    Calls Try.prog 100 #[.agg #[.int .i8 ax, .int .i8 ay], .agg #[.int .i8 cx, .int .i8 cy]] w fun e w' => e = .returned (.int .i64 (sideG ax ay cx cy)) ∧ Below w.heap.size w w' := by
  have HB : ∀ o1 o2, Below w.heap.size w ((w.alloc o1).alloc o2) := fun o1 o2 => ((Below.refl _ _).alloc (Nat.le_refl _) _).alloc (by simp) _
  go_enter Try.func100, Try.ntmps100
  go_wp2_with fail
  go_loopw [6] (fun i wr => ∃ k : Nat, k ≤ 4 ∧ i = .int .i64 k ∧ (∀ j : Nat, j < k → onSide ax ay cx cy (j : Nat) = false) ∧ Below w.heap.size w wr ∧ wr.cell? ⟨w.heap.size, 0, none⟩ = some (.int .i8 ax) ∧ wr.cell? ⟨w.heap.size, 1, none⟩ = some (.int .i8 ay) ∧ wr.cell? ⟨w.heap.size + 1, 0, none⟩ = some (.int .i8 cx) ∧ wr.cell? ⟨w.heap.size + 1, 1, none⟩ = some (.int .i8 cy) ∧ w.heap.size + 1 < wr.heap.size) (fun i _ => 4 - (intOf i).toNat)
  case atStart => exact ⟨0, Nat.zero_le _, rfl, fun j hj => by omega, HB _ _, by simp [go_sem], by simp [go_sem], by simp [go_sem], by simp [go_sem], by simp⟩
  case round =>
    obtain ⟨k, hk, rfl, ht, hbl, a0, a1, c0, c1, hsz⟩ := hrel
    have HT := hid ht
    clear ht
    by_cases hlt : k < 4
    · have Hn := hid (fun (X : Later wr) => next_I ax ay k X.w h0 (by omega))
      have hg : Try.prog.eqGuardType Try.prog.depth 36 = false := by kernel_rfl
      have heq := fun W => eql_Ce (nx ax k) (ny ay k) cx cy W
      obtain ⟨d1, hd⟩ : ∃ d1 : Bool, onSide ax ay cx cy k = d1 := ⟨_, rfl⟩
      simp only [show decide (nx ax k = cx ∧ ny ay k = cy) = d1 from hd] at heq
      have Hd := hid hd
      generalize nx ax k = px at *
      generalize ny ay k = py at *
      have hz := hbl.size
      have h5 : w.heap.size < wr.heap.size := by omega
      clear hd
      have hL := @later_cell wr
      cases d1
      all_goals (
        go_wp2_with fail
        refine wp_region_later (by kernel_rfl) (by kernel_rfl) ?_
        repeat (first | go_big_quiet_skip | (go_big_quiet_want; go_big_quiet_op; first | go_big_quiet_on | (apply Exists.intro; refine ⟨fun _ => ?_, ?_⟩; (go_at_call 68; exact quiet_later (Hn.out _)); go_big_quiet_on)))
        refine wpQuiet_nil ?_
        rintro ⟨w1, hb1⟩
        dsimp only
        have g0 := cell_on hb1 a0
        have g1 := cell_on hb1 a1
        have g2 := cell_on hb1 c0
        have g3 := cell_on hb1 c1
        have hz1 := hb1.size
        clear heq hg hL)
      · go_wp2_with fail
        exact ⟨⟨k + 1, by omega, by go_num, not_step HT.out Hd.out, below_of hbl hz hb1, g0, g1, g2, g3, by omega⟩, by simp [intOf]; omega⟩
      · go_wp2_with fail
        go_ret
        exact ⟨ret_int (sideG_at hlt HT.out Hd.out).symm, below_of hbl hz hb1⟩
    · obtain rfl : k = 4 := by omega
      go_wp2_with fail
      go_ret
      exact ⟨ret_int (sideG_none HT.out).symm, hbl⟩
end Go.Proofs.Ytgkgklgeobbmlaa
