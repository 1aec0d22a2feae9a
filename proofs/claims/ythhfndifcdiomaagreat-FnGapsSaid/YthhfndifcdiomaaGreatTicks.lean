/-
  Rows of ticks, the program's: a row without hits; the least tick of four; whether a hit comes before; whether two rows are equal.
  Conditions: at most 200 pieces.
-/
import Derived.Test.YthhfndifcdiomaaGreatStage2
import Derived.Test.YthhfndifcdiomaaGreatCopySz
import Derived.Laws.IdiomCopy
import Derived.Laws.Bits64b
import Derived.Lib.LazyBuf
namespace Go.Proofs.YthhfndifcdiomaaGreat
open Go.RowKit
set_option linter.unusedSimpArgs false
set_option linter.unusedVariables false

/-- A row of ticks: four to a piece; 'big' where there is none. -/
structure TuA (w : World) (g n : Nat) (E : Nat → Nat) : Prop where
  lt : g < w.heap.size
  c : ∀ i s, i < n → s < 4 → w.cell? ⟨g, i * 4 + s, none⟩ = some (.int .i64 (E (4 * i + s) : Int))
theorem TuA.below {w w1 : World} {g n B : Nat} {E : Nat → Nat} (h : TuA w g n E) (hb : Below B w w1) (hB : g < B) : TuA w1 g n E :=
  ⟨Nat.lt_of_lt_of_le h.lt hb.size, fun i s hi hs => (hb.cell (p := ⟨g, _, none⟩) hB).trans (h.c i s hi hs)⟩
theorem TuA.kept {w w1 : World} {g n : Nat} {E : Nat → Nat} {r : Option Nat} (h : TuA w g n E) (hg : w.grownBy w1 r) (hne : some g ≠ r) : TuA w1 g n E :=
  ⟨Nat.lt_of_lt_of_le h.lt hg.size, fun i s hi hs => (hg.cell_far ⟨g, _, none⟩ h.lt hne).trans (h.c i s hi hs)⟩
theorem TuA.congr {w : World} {g n : Nat} {E E' : Nat → Nat} (h : TuA w g n E) (e : ∀ y, y < 4 * n → E y = E' y) : TuA w g n E' :=
  ⟨h.lt, fun i s hi hs => by rw [← e _ (by omega)]; exact h.c i s hi hs⟩
theorem TuA.set {w : World} {g n : Nat} {E : Nat → Nat} (h : TuA w g n E) {i s : Nat} (hi : i < n) (hs : s < 4) (v : Nat) : TuA (w.setCell ⟨g, i * 4 + s, none⟩ (.int .i64 (v : Int))) g n (upd E (4 * i + s) v) := by
  refine ⟨by simpa using h.lt, fun j k hj hk => ?_⟩
  by_cases e : j = i ∧ k = s
  · obtain ⟨rfl, rfl⟩ := e
    rw [upd_at]
    exact World.cell?_setCell_same _ _ _ (h.c j k hj hk)
  · rw [upd_ne _ _ (by omega), World.cell?_setCell_other _ _ _ _ (by intro x; simp only [Addr.mk.injEq] at x; omega)]
    exact h.c j k hj hk
theorem mask64 {x : Int} (h0 : 0 ≤ x) (h1 : x ≤ 1000) : bits .and .u64 x 4294967295 = x := by
  obtain ⟨n, rfl⟩ : ∃ n : Nat, x = n := ⟨x.toNat, by omega⟩
  have h := bits_and_u64_nat n 4294967295 (by omega) (by omega)
  have e : n &&& 4294967295 = n % 4294967296 := Nat.and_two_pow_sub_one_eq_mod n 32
  rw [e, Nat.mod_eq_of_lt (by omega)] at h
  exact h
theorem mul64_I (y : Int) (w : World) (h0 : 0 ≤ y) (h1 : y ≤ 1000) :
    Calls Tryz.prog 150 #[.int .u64 1, .int .u64 y] w fun e w' => e = .returned (.tuple #[.int .u64 0, .int .u64 y]) ∧ w = w' := by
  have hm := mask64 h0 h1
  have hd : y / 4294967296 = 0 := by omega
  have hw : IntKind.u64.wrap y = y := by rw [IntKind.wrap_u64]; omega
  have hw0 : IntKind.u64.wrap 0 = 0 := by decide
  have m1 : bits BinOp.and IntKind.u64 1 4294967295 = 1 := by decide
  have m0 : bits BinOp.and IntKind.u64 0 4294967295 = 0 := by decide
  go_enter Tryz.func150, Tryz.ntmps150
  go_wp2_with fail
  refine bodyPost_ret (v := .tuple #[.int .u64 0, .int .u64 y]) (by simp [results, Tryz.results150, go_sem, hm, hd, hw, hw0, m1, m0]) rfl ⟨rfl, rfl⟩
theorem mul_I (y : Int) (w : World) (h0 : 0 ≤ y) (h1 : y ≤ 1000) :
    Calls Tryz.prog 141 #[.int .u64 1, .int .u64 y] w fun e w' => e = .returned (.tuple #[.int .u64 0, .int .u64 y]) ∧ w = w' := by
  have hw : IntKind.u64.wrap y = y := by rw [IntKind.wrap_u64]; omega
  have HM := hid (fun W => mul64_I y W h0 h1)
  go_enter Tryz.func141, Tryz.ntmps141
  go_wp2_with (go_at_call 150; refine (HM.out _).mono ?_; rintro e w' ⟨rfl, rfl⟩)
  refine bodyPost_ret (v := .tuple #[.int .u64 0, .int .u64 y]) (by simp [results, Tryz.results141, go_sem, hw]) rfl ⟨rfl, rfl⟩
/-- The first m pieces' ticks are laid, the others are zeros. -/
structure Rep (w : World) (g n m : Nat) : Prop where
  lt : g < w.heap.size
  c : ∀ j, j < n * 4 → w.cell? ⟨g, j, none⟩ = some (.int .i64 (if j < m * 4 then 1099511627776 else 0))
  f : Fz w g
theorem Rep.step {w : World} {g n m k : Nat} (h : Rep w g n m) (hk : m + k ≤ n) : Rep (w.setCells g (m * 4) (List.replicate (k * 4) (.int .i64 1099511627776))) g n (m + k) := by
  have hs : ∀ j, j < (List.replicate (k * 4) (Value.int .i64 1099511627776)).length → (w.cell? ⟨g, m * 4 + j, none⟩).isSome = true := fun j hj => by
    rw [List.length_replicate] at hj
    rw [h.c _ (by omega)]
    rfl
  refine ⟨?_, fun j hj => ?_, fun j => ?_⟩
  · exact Nat.lt_of_lt_of_le h.lt (RowKit.Below.size (below_setCells (Nat.zero_le _) _ _ _ (Below.refl 0 w)))
  · by_cases h1 : m * 4 ≤ j ∧ j < (m + k) * 4
    · obtain ⟨i, hi⟩ : ∃ i, j = m * 4 + i := ⟨j - m * 4, by omega⟩
      subst hi
      have := World.cell?_setCells_in g (List.replicate (k * 4) (Value.int .i64 1099511627776)) (m * 4) w hs i (by rw [List.length_replicate]; omega)
      rw [this, if_pos h1.2]
      simp
    · rw [World.cell?_setCells_out g _ _ _ ⟨g, j, none⟩ (fun _ _ => by rw [List.length_replicate]; dsimp only; omega), h.c j hj]
      by_cases h2 : j < m * 4
      · rw [if_pos h2, if_pos (by omega)]
      · rw [if_neg h2, if_neg (by omega)]
  · rw [World.frozen?_setCells]
    exact h.f j
theorem Rep.full {w : World} {g n : Nat} (h : Rep w g n n) : TuA w g n (fun _ => big) :=
  ⟨h.lt, fun i s hi hs => by rw [h.c _ (by omega), if_pos (by omega)]; rfl⟩
end Go.Proofs.YthhfndifcdiomaaGreat
