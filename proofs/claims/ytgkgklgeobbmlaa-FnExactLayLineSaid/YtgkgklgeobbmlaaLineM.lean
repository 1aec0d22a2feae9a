/-
  The map of distances that steps makes: map[Cell]int64.
  Conditions: the keys' numbers are an int8's.
-/
import Derived.Test.YtgkgklgeobbmlaaSeen
import Derived.Test.YtgkgklgeobbmlaaLineG
namespace Go.Proofs.Ytgkgklgeobbmlaa
open Go.RowKit
set_option linter.unusedSimpArgs false
set_option linter.unusedVariables false

theorem intZ64 (w : World) : (zeroValue 2).run Try.prog w = .ok (.int .i64 0) w := by kernel_rfl
/-- Block b is a map of at most n cells; f tells the number of a cell, a negative one for none. -/
def Plq (w : World) (b n : Nat) (f : Int → Int → Int) : Prop :=
  ∃ D : DataW Unit, w.ownsMap Try.prog 36 (plainElem Try.prog 2) b n D ∧ Maps.IsMap D ∧ ∀ x y, i8B x → i8B y → ∀ z, D.atKey (ceKey x y) z = if 0 ≤ f x y then .lit (.int .i64 (f x y)) else z
theorem plq_made (w : World) : Plq (w.alloc (.map #[] 0)) w.heap.size 0 (fun _ _ => -1) :=
  ⟨_, World.ownsMap_made w _ _ _, Maps.isMap_empty, fun _ _ _ _ _ => rfl⟩
theorem Plq.lt {w : World} {b n : Nat} {f : Int → Int → Int} (h : Plq w b n f) : b < w.heap.size := by
  obtain ⟨D, h1, _⟩ := h
  exact h1.lt
theorem Plq.below {w w1 : World} {b n B : Nat} {f : Int → Int → Int} (h : Plq w b n f) (hb : Below B w w1) (hB : b < B) : Plq w1 b n f := by
  obtain ⟨D, ⟨es, clock, h1, h2⟩, h3⟩ := h
  exact ⟨D, ⟨es, clock, (hb.block b hB).trans h1, h2⟩, h3⟩
theorem Plq.kept {w w1 : World} {b n : Nat} {f : Int → Int → Int} {r : Option Nat} (h : Plq w b n f) (hg : w.grownBy w1 r) (hne : some b ≠ r) : Plq w1 b n f := by
  have hl := h.lt
  obtain ⟨D, ⟨es, clock, h1, h2⟩, h3⟩ := h
  exact ⟨D, ⟨es, clock, (hg.block b hl hne).trans h1, h2⟩, h3⟩
theorem Plq.congr {w : World} {b n : Nat} {f g : Int → Int → Int} (h : Plq w b n f) (e : ∀ x y, i8B x → i8B y → f x y = g x y) : Plq w b n g := by
  obtain ⟨D, h1, h2, h3⟩ := h
  exact ⟨D, h1, h2, fun x y hx hy z => by rw [h3 x y hx hy z, e x y hx hy]⟩
theorem litNq : (DataW.lit (.bool true) : DataW Unit) ≠ .lit (.bool false) := by
  intro h
  injection h with h
  injection h with h
  cases h
set_option maxRecDepth 100000 in
theorem Plq.look {w : World} {b n : Nat} {f : Int → Int → Int} (h : Plq w b n f) {x y : Int} (hx : i8B x) (hy : i8B y) :
    (Instr.lookup 107 (.map (some b)) (.agg #[.int .i8 x, .int .i8 y]) true).run Try.prog w = .ok (.tuple #[.int .i64 (if 0 ≤ f x y then f x y else 0), .bool (decide (0 ≤ f x y))]) w := by
  obtain ⟨D, ⟨es, clock, h1, h2, h4, rfl⟩, h5, h3⟩ := h
  rcases Maps.fit_look true ceLaw Try.underlying107 (intZ64 w) h1 h2 (ceKey_of hx hy) with ⟨hrun, _, hat⟩ | ⟨e0, v, _, _, hrun, hRv, hat, _⟩
  · have hn : ¬ 0 ≤ f x y := by
      intro hp
      have a1 := h3 x y hx hy (.lit (.bool true))
      have a2 := h3 x y hx hy (.lit (.bool false))
      rw [hat, if_pos hp] at a1 a2
      exact litNq (a1.trans a2.symm)
    rw [hrun, if_neg hn, decide_eq_false hn]
    rfl
  · have hp : 0 ≤ f x y := by
      apply Classical.byContradiction
      intro hn
      have a1 := h3 x y hx hy (.lit (.bool true))
      have a2 := h3 x y hx hy (.lit (.bool false))
      rw [hat, if_neg hn] at a1 a2
      exact litNq (a1.symm.trans a2)
    obtain ⟨c, hc1, hc2, _⟩ := plainElem_int_inv Try.underlying2 hRv
    have a1 := h3 x y hx hy (.lit (.bool true))
    rw [hat, if_pos hp, hc2] at a1
    have hce : c = f x y := by
      injection a1 with a1
      injection a1
    rw [hrun, if_pos hp, decide_eq_true hp, hc1, hce]
    rfl
set_option maxRecDepth 100000 in
theorem Plq.look1 {w : World} {b n : Nat} {f : Int → Int → Int} (h : Plq w b n f) {x y : Int} (hx : i8B x) (hy : i8B y) :
    (Instr.lookup 107 (.map (some b)) (.agg #[.int .i8 x, .int .i8 y]) false).run Try.prog w = .ok (.int .i64 (if 0 ≤ f x y then f x y else 0)) w := by
  obtain ⟨D, ⟨es, clock, h1, h2, h4, rfl⟩, h5, h3⟩ := h
  rcases Maps.fit_look false ceLaw Try.underlying107 (intZ64 w) h1 h2 (ceKey_of hx hy) with ⟨hrun, _, hat⟩ | ⟨e0, v, _, _, hrun, hRv, hat, _⟩
  · have hn : ¬ 0 ≤ f x y := by
      intro hp
      have a1 := h3 x y hx hy (.lit (.bool true))
      have a2 := h3 x y hx hy (.lit (.bool false))
      rw [hat, if_pos hp] at a1 a2
      exact litNq (a1.trans a2.symm)
    rw [hrun, if_neg hn]
    rfl
  · have hp : 0 ≤ f x y := by
      apply Classical.byContradiction
      intro hn
      have a1 := h3 x y hx hy (.lit (.bool true))
      have a2 := h3 x y hx hy (.lit (.bool false))
      rw [hat, if_neg hn] at a1 a2
      exact litNq (a1.symm.trans a2)
    obtain ⟨c, hc1, hc2, _⟩ := plainElem_int_inv Try.underlying2 hRv
    have a1 := h3 x y hx hy (.lit (.bool true))
    rw [hat, if_pos hp, hc2] at a1
    have hce : c = f x y := by
      injection a1 with a1
      injection a1
    rw [hrun, if_pos hp, hc1, hce]
    rfl
set_option maxRecDepth 100000 in
theorem Plq.store {w : World} {b n : Nat} {f : Int → Int → Int} (h : Plq w b n f) (hn : n < maxLen) {x y : Int} (hx : i8B x) (hy : i8B y) (v : Int) (v0 : 0 ≤ v) (v1 : v ≤ 9223372036854775807) :
    ∃ w', (Instr.mapUpdate 107 (.map (some b)) (.agg #[.int .i8 x, .int .i8 y]) (.int .i64 v)).run Try.prog w = .ok () w' ∧ Plq w' b (n + 1) (fun p q => if p = x ∧ q = y then v else f p q) ∧ w.grownBy w' (some b) := by
  obtain ⟨D, h1, h2, h3⟩ := h
  have wf : (Lit.int .i64 v).wf = true := WalkArith.wf_i64 ⟨by omega, v1⟩
  obtain ⟨w', hr, ho, hg⟩ := h1.update ceLaw Try.underlying107 hn (ceKey_of hx hy) (plainElem_int Try.underlying2 wf)
  refine ⟨w', hr, ⟨_, ho, h2.put _ _, fun p q hp hq z => ?_⟩, hg⟩
  by_cases e : p = x ∧ q = y
  · obtain ⟨rfl, rfl⟩ := e
    rw [Maps.atKey_put_same h2 (ceLaw.key (ceKey_of hx hy))]
    simp [v0]
  · rw [Maps.atKey_put_other (fun ek => e ?_), h3 p q hp hq]
    · simp only [if_neg e]
    · have := ceLaw.inj (ceKey_of hp hq) (ek ▸ ceKey_of hx hy)
      simpa using this
end Go.Proofs.Ytgkgklgeobbmlaa
