/-
  The map of places that stageOf makes: where which piece stands.
  Conditions: the keys' numbers are an int8's.
-/
import Derived.Test.YthhfndifcdiomaaGreatSeen
namespace Go.Proofs.YthhfndifcdiomaaGreat
open Go.RowKit
set_option linter.unusedSimpArgs false
set_option linter.unusedVariables false

theorem intZero (w : World) : (zeroValue 3).run Tryz.prog w = .ok (.int .i64 0) w := by kernel_rfl
/-- Block b is a map of at most n cells; f tells the number of a cell, a negative one for none. -/
def Plc (w : World) (b n : Nat) (f : Int → Int → Int) : Prop :=
  ∃ D : DataW Unit, w.ownsMap Tryz.prog 74 (plainElem Tryz.prog 3) b n D ∧ Maps.IsMap D ∧ ∀ x y, i8B x → i8B y → ∀ z, D.atKey (ceKey x y) z = if 0 ≤ f x y then .lit (.int .i64 (f x y)) else z
theorem plc_made (w : World) : Plc (w.alloc (.map #[] 0)) w.heap.size 0 (fun _ _ => -1) :=
  ⟨_, World.ownsMap_made w _ _ _, Maps.isMap_empty, fun _ _ _ _ _ => rfl⟩
theorem Plc.lt {w : World} {b n : Nat} {f : Int → Int → Int} (h : Plc w b n f) : b < w.heap.size := by
  obtain ⟨D, h1, _⟩ := h
  exact h1.lt
theorem Plc.below {w w1 : World} {b n B : Nat} {f : Int → Int → Int} (h : Plc w b n f) (hb : Below B w w1) (hB : b < B) : Plc w1 b n f := by
  obtain ⟨D, ⟨es, clock, h1, h2⟩, h3⟩ := h
  exact ⟨D, ⟨es, clock, (hb.block b hB).trans h1, h2⟩, h3⟩
theorem Plc.kept {w w1 : World} {b n : Nat} {f : Int → Int → Int} {r : Option Nat} (h : Plc w b n f) (hg : w.grownBy w1 r) (hne : some b ≠ r) : Plc w1 b n f := by
  have hl := h.lt
  obtain ⟨D, ⟨es, clock, h1, h2⟩, h3⟩ := h
  exact ⟨D, ⟨es, clock, (hg.block b hl hne).trans h1, h2⟩, h3⟩
theorem Plc.congr {w : World} {b n : Nat} {f g : Int → Int → Int} (h : Plc w b n f) (e : ∀ x y, i8B x → i8B y → f x y = g x y) : Plc w b n g := by
  obtain ⟨D, h1, h2, h3⟩ := h
  exact ⟨D, h1, h2, fun x y hx hy z => by rw [h3 x y hx hy z, e x y hx hy]⟩
theorem litNe : (DataW.lit (.bool true) : DataW Unit) ≠ .lit (.bool false) := by
  intro h
  injection h with h
  injection h with h
  cases h
set_option maxRecDepth 100000 in
theorem Plc.look {w : World} {b n : Nat} {f : Int → Int → Int} (h : Plc w b n f) {x y : Int} (hx : i8B x) (hy : i8B y) :
    (Instr.lookup 109 (.map (some b)) (.agg #[.int .i8 x, .int .i8 y]) true).run Tryz.prog w = .ok (.tuple #[.int .i64 (if 0 ≤ f x y then f x y else 0), .bool (decide (0 ≤ f x y))]) w := by
  obtain ⟨D, ⟨es, clock, h1, h2, h4, rfl⟩, h5, h3⟩ := h
  rcases Maps.fit_look true ceLaw Tryz.underlying109 (intZero w) h1 h2 (ceKey_of hx hy) with ⟨hrun, _, hat⟩ | ⟨e0, v, _, _, hrun, hRv, hat, _⟩
  · have hn : ¬ 0 ≤ f x y := by
      intro hp
      have a1 := h3 x y hx hy (.lit (.bool true))
      have a2 := h3 x y hx hy (.lit (.bool false))
      rw [hat, if_pos hp] at a1 a2
      exact litNe (a1.trans a2.symm)
    rw [hrun, if_neg hn, decide_eq_false hn]
    rfl
  · have hp : 0 ≤ f x y := by
      apply Classical.byContradiction
      intro hn
      have a1 := h3 x y hx hy (.lit (.bool true))
      have a2 := h3 x y hx hy (.lit (.bool false))
      rw [hat, if_neg hn] at a1 a2
      exact litNe (a1.symm.trans a2)
    obtain ⟨c, hc1, hc2, _⟩ := plainElem_int_inv Tryz.underlying3 hRv
    have a1 := h3 x y hx hy (.lit (.bool true))
    rw [hat, if_pos hp, hc2] at a1
    have hce : c = f x y := by
      injection a1 with a1
      injection a1
    rw [hrun, if_pos hp, decide_eq_true hp, hc1, hce]
    rfl
set_option maxRecDepth 100000 in
theorem Plc.store {w : World} {b n : Nat} {f : Int → Int → Int} (h : Plc w b n f) (hn : n < maxLen) {x y : Int} (hx : i8B x) (hy : i8B y) (v : Int) (v0 : 0 ≤ v) (v1 : v ≤ 9223372036854775807) :
    ∃ w', (Instr.mapUpdate 109 (.map (some b)) (.agg #[.int .i8 x, .int .i8 y]) (.int .i64 v)).run Tryz.prog w = .ok () w' ∧ Plc w' b (n + 1) (fun p q => if p = x ∧ q = y then v else f p q) ∧ w.grownBy w' (some b) := by
  obtain ⟨D, h1, h2, h3⟩ := h
  have wf : (Lit.int .i64 v).wf = true := WalkArith.wf_i64 ⟨by omega, v1⟩
  obtain ⟨w', hr, ho, hg⟩ := h1.update ceLaw Tryz.underlying109 hn (ceKey_of hx hy) (plainElem_int Tryz.underlying3 wf)
  refine ⟨w', hr, ⟨_, ho, h2.put _ _, fun p q hp hq z => ?_⟩, hg⟩
  by_cases e : p = x ∧ q = y
  · obtain ⟨rfl, rfl⟩ := e
    rw [Maps.atKey_put_same h2 (ceLaw.key (ceKey_of hx hy))]
    simp [v0]
  · rw [Maps.atKey_put_other (fun ek => e ?_), h3 p q hp hq]
    · simp only [if_neg e]
    · have := ceLaw.inj (ceKey_of hp hq) (ek ▸ ceKey_of hx hy)
      simpa using this
theorem idxOf_snoc {α : Type} (p : α → Bool) (xs : List α) (x : α) : idxOf p (xs ++ [x]) = if xs.any p = true then idxOf p xs else if p x = true then (xs.length : Int) else -1 := by
  cases h : xs.any p with
  | true =>
    obtain ⟨k, y, e, hk, hp, ht⟩ := idxOf_some h
    rw [if_pos rfl, e]
    have hkl := (List.getElem?_eq_some_iff.1 hk).1
    refine idxOf_at ?_ (x := y) (by rw [List.getElem?_append_left hkl]; exact hk) hp
    rw [List.take_append_of_le_length (by omega)]
    exact ht
  | false =>
    rw [if_neg (by simp)]
    cases hx : p x with
    | true =>
      rw [if_pos rfl]
      refine idxOf_at ?_ (x := x) (by simp) hx
      rw [List.take_left]
      exact h
    | false =>
      rw [if_neg (by simp)]
      refine idxOf_none ?_
      rw [List.any_append, h]
      simp [hx]
end Go.Proofs.YthhfndifcdiomaaGreat
