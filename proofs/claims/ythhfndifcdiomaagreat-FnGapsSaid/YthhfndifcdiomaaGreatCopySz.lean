/-
  copy of elements of several cells, into a row that is there.
  Conditions: none; general law.
-/
import Derived.Test.YthhfndifcdiomaaGreatBase
import Derived.Shelf.Spec.SlicesInsert
import Derived.Lib.AppendZerosOnto
import Derived.Laws.NewBlocks
import Derived.Laws.OwnMore
namespace Go.Proofs.YthhfndifcdiomaaGreat
open Go.RowKit Go.Lib
set_option linter.unusedSimpArgs false
set_option linter.unusedVariables false

theorem copy_cells_sz {P : Program} (w : World) (dT sT ty elem : TypeId) (size : Nat) (b o dLen dCap : Nat) (a : Addr) (sLen sCap : Nat) (cs : List Value)
    (hu : P.underlying dT = some (.slice elem)) (hs : (P.info? elem).map (·.size) = some size) (hn : cs.length = Nat.min sLen dLen * size)
    (hsrc : ∀ j v, cs[j]? = some v → w.cell? (a.add j) = some v) (hc : ∀ j, j < cs.length → (w.cell? ⟨b, o + j, none⟩).isSome = true) (hf : ∀ j, j < cs.length → w.frozen? ⟨b, o + j, none⟩ = false) (h1 : ∀ v ∈ cs, v.oneCell' = true) :
    (Builtin.copy_ #[dT, sT] ty #[.slice (some ⟨b, o, none⟩) dLen dCap, .slice (some a) sLen sCap]).run P w = .ok (goInt (Nat.min sLen dLen)) (w.setCells b o cs) := by
  have hl := run_loadCells_list (P := P) w a cs hsrc
  have hst := run_storeCells_cells (P := P) b o cs 0 w (by simpa using hc) (by simpa using hf) h1
  cases hq : P.info? elem with
  | none => simp [hq] at hs
  | some i =>
    have hi : i.size = size := by simpa [hq] using hs
    simp [Builtin.copy_, run_underlying hu, Builtin.lenOf, Builtin.firstCells, sizeOf, typeInfo, hq, hi, ← hn, hl, hst]
theorem setL_spread (vs : List Value) : ∀ (cs : List Value) (o : Nat), o + vs.length ≤ cs.length → setL cs o vs = cs.take o ++ vs ++ cs.drop (o + vs.length) := by
  intro cs o h
  have h1 := setL_take vs cs o h
  have h2 : (setL cs o vs).drop (o + vs.length) = cs.drop (o + vs.length) := by
    have key : ∀ (vs cs : List Value) (o k : Nat), o + vs.length ≤ k → (setL cs o vs).drop k = cs.drop k := by
      intro vs
      induction vs with
      | nil => intro cs o k _; rfl
      | cons v vs ih =>
        intro cs o k hk
        simp only [List.length_cons] at hk
        rw [setL, ih _ _ _ (by omega), List.drop_set_of_lt (by omega)]
    exact key vs cs o _ (Nat.le_refl _)
  rw [← h1, ← h2, List.take_append_drop]
theorem own_setCells {base : Nat} {e : TypeId} {size g n c : Nat} : ∀ (vs cs : List Value) (o : Nat) (w : World), w.ownsRow base e size (.slice (some ⟨g, 0, none⟩) n c) n cs →
    (w.setCells g o vs).ownsRow base e size (.slice (some ⟨g, 0, none⟩) n c) n (setL cs o vs) ∧ w.grownBy (w.setCells g o vs) (some g)
  | [], cs, o, w, h => ⟨h, World.grownBy.refl _ _⟩
  | v :: vs, cs, o, w, h => by
    have h1 := h.stored o v
    have h2 := own_setCells vs _ (o + 1) _ h1.1
    exact ⟨h2.1, h1.2.trans h2.2⟩
theorem own_more {w : World} {base : Nat} {e : TypeId} {size g n c : Nat} {xs : List Value} (h : w.ownsRow base e size (.slice (some ⟨g, 0, none⟩) n c) n xs) {m : Nat} (hm : n + m ≤ c) :
    ∃ S : List Value, S.length = m * size ∧ w.ownsRow base e size (.slice (some ⟨g, 0, none⟩) (n + m) c) (n + m) (xs ++ S) := by
  have hl := h.1
  rcases h.2 with ⟨h', _⟩ | ⟨g', cap', cur, h', hb, hg, hnc, hcm, hcs, htake⟩
  · simp at h'
  · simp only [Value.slice.injEq, Option.some.injEq, Addr.mk.injEq, and_true, true_and] at h'
    obtain ⟨rfl, rfl⟩ := h'
    have hle : (n + m) * size ≤ c * size := Nat.mul_le_mul_right _ hm
    rw [Nat.add_mul] at hle
    refine ⟨(cur.toList.drop (n * size)).take (m * size), ?_, ?_, .inr ⟨g, c, cur, rfl, hb, hg, hm, hcm, hcs, ?_⟩⟩
    · rw [List.length_take, List.length_drop, Array.length_toList]
      omega
    · rw [List.length_append, hl, List.length_take, List.length_drop, Array.length_toList, Nat.add_mul]
      omega
    · rw [Nat.add_mul, List.take_add, htake]
theorem own_heap {w : World} {base : Nat} {e : TypeId} {size g n c : Nat} {xs : List Value} (h : w.ownsRow base e size (.slice (some ⟨g, 0, none⟩) n c) n xs) : ∃ cur : Array Value, w.heap[g]? = some (.cells cur e (0, 0)) ∧ cur.size = c * size ∧ n ≤ c ∧ c ≤ maxLen := by
  rcases h.2 with ⟨h', _⟩ | ⟨g', cap', cur, h', hb, hg, hnc, hcm, hcs, htake⟩
  · simp at h'
  · simp only [Value.slice.injEq, Option.some.injEq, Addr.mk.injEq, and_true, true_and] at h'
    obtain ⟨rfl, rfl⟩ := h'
    exact ⟨cur, hg, hcs, hnc, hcm⟩
end Go.Proofs.YthhfndifcdiomaaGreat
