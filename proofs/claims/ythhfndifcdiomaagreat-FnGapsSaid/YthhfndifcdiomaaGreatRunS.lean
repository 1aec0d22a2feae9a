/-
  How all pieces fall, the reference's (one push).
  Conditions: the board is right.
-/
import Derived.Test.YthhfndifcdiomaaGreatBoF
import Derived.Test.YthhfndifcdiomaaGreatClkN
import Derived.BigQuiet
import Derived.BigRegion
import Derived.Deep.QuietTactic
import Derived.Deep.CutRange
import Derived.Deep.RegionHeld3
namespace Go.Proofs.YthhfndifcdiomaaGreat
open Go.RowKit
set_option linter.unusedSimpArgs false
set_option linter.unusedVariables false

theorem quiet_eqS {P : Program} {f : FuncId} {args : Array Value} {w : World} {n : Nat} {v : Value} (h : Calls P f args (w.drewN n) fun e w' => e = .returned v ∧ w.drewN n = w') : Calls P f args (w.drewN n) fun e w'' => e = .returned v ∧ ∃ m, w'' = w.drewN m :=
  h.mono fun _ _ ⟨he, hm⟩ => ⟨he, n, hm.symm⟩
/-- A row of flags. -/
structure DnA (w : World) (g n : Nat) (f : Nat → Bool) : Prop where
  lt : g < w.heap.size
  c : ∀ i, i < n → w.cell? ⟨g, i, none⟩ = some (.bool (f i))
theorem DnA.below {w w1 : World} {g n B : Nat} {f : Nat → Bool} (h : DnA w g n f) (hb : Below B w w1) (hB : g < B) : DnA w1 g n f :=
  ⟨Nat.lt_of_lt_of_le h.lt hb.size, fun i hi => (hb.cell (p := ⟨g, _, none⟩) hB).trans (h.c i hi)⟩
theorem DnA.kept {w w1 : World} {g n : Nat} {f : Nat → Bool} {r : Option Nat} (h : DnA w g n f) (hg : w.grownBy w1 r) (hne : some g ≠ r) : DnA w1 g n f :=
  ⟨Nat.lt_of_lt_of_le h.lt hg.size, fun i hi => (hg.cell_far ⟨g, _, none⟩ h.lt hne).trans (h.c i hi)⟩
theorem DnA.set {w : World} {g n : Nat} {f : Nat → Bool} (h : DnA w g n f) {i : Nat} (hi : i < n) : DnA (w.setCell ⟨g, i, none⟩ (.bool true)) g n (fun y => decide (y = i) || f y) := by
  refine ⟨by simpa using h.lt, fun j hj => ?_⟩
  by_cases e : j = i
  · subst e
    rw [World.cell?_setCell_same _ _ _ (h.c j hi)]; simp
  · rw [World.cell?_setCell_other _ _ _ _ (by intro x; simp only [Addr.mk.injEq] at x; omega), h.c j hj]
    simp [e]
theorem madeB (m j : Nat) (h : j < m) : (madeCells #[.bool false] m)[j]? = some (.bool false) := by
  unfold madeCells
  have hz : ∀ k, (#[.bool false] : Array Value)[k % 1]! = .bool false := by intro k; rw [Nat.mod_one]; rfl
  rw [Array.getElem?_map, Array.getElem?_eq_getElem (by simpa using h)]
  simp only [Array.getElem_range, Option.map_some]
  exact congrArg some (hz j)
theorem dn_made (W : World) (n : Nat) (t : TypeId) : DnA (W.alloc (.cells (madeCells #[.bool false] n) t)) W.heap.size n (fun _ => false) := by
  refine ⟨by simp, fun i hi => ?_⟩
  rw [World.cell?_alloc_new]
  exact madeB n i hi
theorem madeF (m j o : Nat) (h : j < m) (ho : o < 3) : (madeCells #[.int .i64 0, .int .i8 0, .int .i64 0] (m * 3))[j * 3 + o]? = some ((#[.int .i64 0, .int .i8 0, .int .i64 0] : Array Value)[o]!) := by
  unfold madeCells
  have hz : (j * 3 + o) % (#[.int .i64 0, .int .i8 0, .int .i64 0] : Array Value).size = o := by
    show (j * 3 + o) % 3 = o
    omega
  rw [Array.getElem?_map, Array.getElem?_eq_getElem (by simp; omega)]
  simp only [Array.getElem_range, Option.map_some, hz]
theorem fa_made (W : World) (n : Nat) (t : TypeId) : FaA (W.alloc (.cells (madeCells #[.int .i64 0, .int .i8 0, .int .i64 0] (n * 3)) t)) W.heap.size n (fun _ => 0) := by
  refine ⟨by simp, fun i hi => ?_, fun i hi => ?_, fun i hi => ⟨0, ?_⟩⟩
  · rw [World.cell?_alloc_new]
    exact madeF n i 0 hi (by omega)
  · rw [World.cell?_alloc_new]
    exact madeF n i 1 hi (by omega)
  · rw [World.cell?_alloc_new]
    exact madeF n i 2 hi (by omega)
/-- Whether a key is better than another one; if they are one: it is not told. -/
def BetR (k v : Nat) (e : Ending) : Prop := ∃ r, e = .returned (.bool r) ∧ (k < v → r = true) ∧ (v < k → r = false)
theorem fallNone_S (w : World) : Calls Tryz.prog 121 #[] w fun e w' => e = .returned (.agg #[.int .i64 (-1), .int .i8 0, .int .i64 (-1)]) ∧ Below w.heap.size w w' := by
  go_enter Tryz.func121, Tryz.ntmps121
  go_wp2_with fail
  refine bodyPost_ret (v := .agg #[.int .i64 (-1), .int .i8 0, .int .i64 (-1)]) (by simp [results, Tryz.results121, go_sem]) rfl ?_
  refine ⟨rfl, ?_⟩
  exact (Below.refl _ _).alloc (Nat.le_refl _) _
set_option maxHeartbeats 1000000 in
theorem better_S (t s v g o : Nat) (bq by_ : Int) (w : World) (hs : s < 4) (ht : t ≤ 1000000) (hv : v ≤ big) (c0 : w.cell? ⟨g, o, none⟩ = some (.int .i64 (keyT v))) (c1 : w.cell? ⟨g, o + 1, none⟩ = some (.int .i8 (keyS v))) (c2 : w.cell? ⟨g, o + 2, none⟩ = some (.int .i64 bq)) :
    Calls Tryz.prog 123 #[.int .i64 t, .int .i64 s, .int .i64 by_, .pointer (some ⟨g, o, none⟩)] w fun e w' => BetR (4 * t + s) v e ∧ w = w' := by
  have hb2 : big = 1099511627776 := rfl
  by_cases hvb : v < big
  · rw [keyT_lt hvb] at c0
    rw [keyS_lt hvb] at c1
    obtain ⟨tq, htq⟩ : ∃ q, v / 4 = q := ⟨_, rfl⟩
    obtain ⟨sq, hsq⟩ : ∃ q, v % 4 = q := ⟨_, rfl⟩
    have hve : v = 4 * tq + sq := by omega
    have hsq4 : sq < 4 := by omega
    rw [htq] at c0
    rw [hsq] at c1
    have d0 : ¬ (tq : Int) < 0 := by omega
    have d1 : decide ((tq : Int) < 0) = false := decide_eq_false d0
    have ws : IntKind.i64.wrap (sq : Int) = sq := IntWalk.i64_in _ (by omega)
    clear htq hsq hv hvb
    subst hve
    by_cases e1 : t = tq
    · subst e1
      by_cases e2 : s = sq
      · subst e2
        go_enter Tryz.func123, Tryz.ntmps123
        go_wp2_with fail
        refine bodyPost_ret (v := .bool (decide (by_ < bq))) (by simp [results, Tryz.results123, go_sem]) rfl ?_
        exact ⟨⟨_, rfl, fun h => by omega, fun h => by omega⟩, rfl⟩
      · have e3 : ¬ (s : Int) = (sq : Int) := by omega
        have e4 : ((s : Int) == (sq : Int)) = false := by simpa using e3
        have e5 : decide ((s : Int) = (sq : Int)) = false := decide_eq_false e3
        go_enter Tryz.func123, Tryz.ntmps123
        go_wp2_with fail
        refine bodyPost_ret (v := .bool (decide (s < sq))) (by simp [results, Tryz.results123, go_sem]) rfl ?_
        exact ⟨⟨_, rfl, fun h => decide_eq_true (by omega), fun h => decide_eq_false (by omega)⟩, rfl⟩
    · have e3 : ¬ (t : Int) = (tq : Int) := by omega
      have e4 : ((t : Int) == (tq : Int)) = false := by simpa using e3
      have e5 : decide ((t : Int) = (tq : Int)) = false := decide_eq_false e3
      go_enter Tryz.func123, Tryz.ntmps123
      go_wp2_with fail
      refine bodyPost_ret (v := .bool (decide (t < tq))) (by simp [results, Tryz.results123, go_sem]) rfl ?_
      exact ⟨⟨_, rfl, fun h => decide_eq_true (by omega), fun h => decide_eq_false (by omega)⟩, rfl⟩
  · obtain rfl : v = big := by omega
    rw [keyT_big] at c0
    clear hv hvb
    go_enter Tryz.func123, Tryz.ntmps123
    go_wp2_with fail
    go_ret
    exact ⟨⟨true, rfl, fun _ => rfl, fun h => by omega⟩, rfl⟩
end Go.Proofs.YthhfndifcdiomaaGreat
