/-
  The map that ValidBoard makes: which cells have been seen.
  Conditions: the keys' numbers are an int8's.
-/
import Derived.Test.YtgkgklgeobbmlaaBoard
import Derived.Maps.OwnOps
import Derived.Maps.Views
import Derived.WideKeyPair
import Derived.DeepKeys4
namespace Go.Proofs.Ytgkgklgeobbmlaa
open Go.RowKit
set_option linter.unusedSimpArgs false
set_option linter.unusedVariables false

theorem ceLaid : laidOutB Try.prog = true := by kernel_rfl
theorem ceRow : (36 : TypeId) < Try.prog.types.size := of_decide_eq_true (by kernel_rfl)
theorem ceCells : Try.prog.cellsOf 36 = 2 := by kernel_rfl
theorem ceArr : WideMaps.ArrKey Try.prog 36 22 2 := ⟨Try.underlying36, by kernel_rfl, by kernel_rfl, ceCells⟩
theorem ceWide : (match Try.prog.underlying 36 with | some (.array _ _) | some (.struct _) => true | _ => false) = true := by rw [ Try.underlying36 ]
theorem ceDeep : Try.prog.keyTypeAt 2 36 = true := by kernel_rfl
set_option maxRecDepth 100000 in
theorem ceLaw0 : WideMaps.KeyLaw Try.prog 36 := deep_law_laid ceLaid (m := 2) (by decide) ceRow ceDeep ceWide
theorem ceLaw : Maps.Keyed Try.prog 36 := Maps.Keyed.of_law ceLaw0
theorem tyPos : 0 < Try.prog.types.size := of_decide_eq_true (by kernel_rfl)
theorem pos_succ {n : Nat} (h : 0 < n) : ∃ m, n = m + 1 := ⟨n - 1, by omega⟩
theorem tySize : ∃ m, Try.prog.types.size = m + 1 := pos_succ tyPos
theorem boolZero (w : World) : (zeroValue 4).run Try.prog w = .ok (.bool false) w := by kernel_rfl
theorem i8_wf {x : Int} (h0 : -128 ≤ x) (h1 : x ≤ 127) : (Lit.int .i8 x).wf = true := WalkArith.wf_i8 ⟨h0, h1⟩
def ceKey (x y : Int) : Lit := .string (keyBytes [.int .i8 x, .int .i8 y])
theorem ceKey_of {x y : Int} (hx : -128 ≤ x ∧ x ≤ 127) (hy : -128 ≤ y ∧ y ≤ 127) : keyOf Try.prog 36 (.agg #[.int .i8 x, .int .i8 y]) = some (ceKey x y) :=
  WideMaps.keyOf_pair ceArr Try.underlying22 tySize (i8_wf hx.1 hx.2) (i8_wf hy.1 hy.2)
def i8B (x : Int) : Prop := -128 ≤ x ∧ x ≤ 127
/-- Block b is a map of at most n cells: those of which S says so. -/
def Seen (w : World) (b n : Nat) (S : Int → Int → Bool) : Prop :=
  ∃ D : DataW Unit, w.ownsMap Try.prog 36 (plainElem Try.prog 4) b n D ∧ Maps.IsMap D ∧ ∀ x y, i8B x → i8B y → D.atKey (ceKey x y) (.lit (.bool false)) = .lit (.bool (S x y))
theorem seen_made (w : World) : Seen (w.alloc (.map #[] 0)) w.heap.size 0 (fun _ _ => false) :=
  ⟨_, World.ownsMap_made w _ _ _, Maps.isMap_empty, fun _ _ _ _ => rfl⟩
theorem Seen.lt {w : World} {b n : Nat} {S : Int → Int → Bool} (h : Seen w b n S) : b < w.heap.size := by
  obtain ⟨D, h1, _⟩ := h
  exact h1.lt
theorem Seen.below {w w1 : World} {b n B : Nat} {S : Int → Int → Bool} (h : Seen w b n S) (hb : Below B w w1) (hB : b < B) : Seen w1 b n S := by
  obtain ⟨D, ⟨es, clock, h1, h2⟩, h3⟩ := h
  exact ⟨D, ⟨es, clock, (hb.block b hB).trans h1, h2⟩, h3⟩
set_option maxRecDepth 100000 in
theorem Seen.look {w : World} {b n : Nat} {S : Int → Int → Bool} (h : Seen w b n S) {x y : Int} (hx : i8B x) (hy : i8B y) : (Instr.lookup 119 (.map (some b)) (.agg #[.int .i8 x, .int .i8 y]) false).run Try.prog w = .ok (.bool (S x y)) w := by
  obtain ⟨D, h1, h2, h3⟩ := h
  obtain ⟨v, ps, hr, hv⟩ := h1.lookup ceLaw Try.underlying119 (z := .bool false) (boolZero w) (plainElem_bool Try.underlying4 false) (ceKey_of hx hy)
  rw [h3 x y hx hy] at hv
  have : v = .bool (S x y) := by
    unfold plainElem at hv
    rw [ Try.underlying4 ] at hv
    cases v <;> simp at hv
    rw [hv.1]
  rw [hr, this]
set_option maxRecDepth 100000 in
theorem Seen.store {w : World} {b n : Nat} {S : Int → Int → Bool} (h : Seen w b n S) (hn : n < maxLen) {x y : Int} (hx : i8B x) (hy : i8B y) :
    ∃ w', (Instr.mapUpdate 119 (.map (some b)) (.agg #[.int .i8 x, .int .i8 y]) (.bool true)).run Try.prog w = .ok () w' ∧ Seen w' b (n + 1) (fun u v => decide (u = x ∧ v = y) || S u v) ∧ w.grownBy w' (some b) := by
  obtain ⟨D, h1, h2, h3⟩ := h
  obtain ⟨w', hr, ho, hg⟩ := h1.update ceLaw Try.underlying119 hn (ceKey_of hx hy) (plainElem_bool Try.underlying4 true)
  refine ⟨w', hr, ⟨_, ho, h2.put _ _, fun u v hu hv => ?_⟩, hg⟩
  by_cases e : u = x ∧ v = y
  · obtain ⟨rfl, rfl⟩ := e
    rw [Maps.atKey_put_same h2 (ceLaw.key (ceKey_of hx hy))]
    simp
  · rw [Maps.atKey_put_other (fun ek => e ?_), h3 u v hu hv]
    · simp [e]
    · have := ceLaw.inj (ceKey_of hu hv) (ek ▸ ceKey_of hx hy)
      simpa using this
end Go.Proofs.Ytgkgklgeobbmlaa
