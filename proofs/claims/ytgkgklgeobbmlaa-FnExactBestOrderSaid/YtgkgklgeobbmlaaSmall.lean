/-
  Small functions over numbers: bounds, sides, bits.
  Conditions: none, or the ranges of the arguments.
-/
import Derived.Test.YtgkgklgeobbmlaaProg
import Derived.Test.YtgkgklgeobbmlaaData
namespace Go.Proofs.Ytgkgklgeobbmlaa
open Go.RowKit

def inB (n low high : Int) : Bool := decide (low ≤ n) && decide (n ≤ high)
theorem in_S (n low high : Int) (w : World) :
    Calls Try.prog 44 #[.int .i64 n, .int .i64 low, .int .i64 high] w fun e w' => e = .returned (.bool (inB n low high)) ∧ w = w' := by
  go_enter Try.func44, Try.ntmps44
  go_wp2
  all_goals (go_ret)
  all_goals (refine ⟨?_, rfl⟩)
  all_goals (simp [inB]; try omega)
theorem in_I (n low high : Int) (w : World) :
    Calls Try.prog 46 #[.int .i64 n, .int .i64 low, .int .i64 high] w fun e w' => e = .returned (.bool (inB n low high)) ∧ w = w' := by
  go_enter Try.func46, Try.ntmps46
  go_wp2
  all_goals (go_ret)
  all_goals (refine ⟨?_, rfl⟩)
  all_goals (simp [inB]; try omega)
theorem side_S (n : Int) (w : World) :
    Calls Try.prog 65 #[.int .i64 n] w fun e w' => e = .returned (.bool (inB n 0 3)) ∧ w = w' := by
  go_enter Try.func65, Try.ntmps65
  go_wp2_with (go_at_call 44; refine (in_S _ _ _ _).mono ?_; rintro e w' ⟨rfl, rfl⟩)
  go_ret
  exact ⟨rfl, rfl⟩
theorem side_I (n : Int) (w : World) :
    Calls Try.prog 85 #[.int .i64 n] w fun e w' => e = .returned (.bool (inB n 0 3)) ∧ w = w' := by
  go_enter Try.func85, Try.ntmps85
  go_wp2_with (go_at_call 46; refine (in_I _ _ _ _).mono ?_; rintro e w' ⟨rfl, rfl⟩)
  go_ret
  exact ⟨rfl, rfl⟩
theorem u8_and1 (x : Int) (h₀ : 0 ≤ x) (h₁ : x < 256) : bits .and .u8 x 1 = x % 2 := bits_mask .u8 8 (by decide) wraps_u8 1 (by decide) x h₀ h₁
theorem shr_and1 (si : Int) (k : Nat) (h0 : 0 ≤ si) (h1 : si < 256) : bits BinOp.and IntKind.u8 (si / 2 ^ k) 1 = si / 2 ^ k % 2 := by
  rw [u8_and1]
  · exact Int.ediv_nonneg h0 (Int.pow_nonneg (by omega))
  · exact Int.lt_of_le_of_lt (Int.ediv_le_self _ h0) h1
theorem shr_eq (si fr : Int) (h0 : 0 ≤ si) (h1 : si < 256) (f0 : inB fr 0 3 = true) :
   bits BinOp.and IntKind.u8 (si / 2 ^ min (IntKind.u64.wrap fr).toNat 8) 1 = si / 2 ^ fr.toNat % 2 := by
  simp [inB] at f0
  have : IntKind.u64.wrap fr = fr := by
    rw [IntKind.wrap]; simp [IntKind.bits]; omega
  rw [this, Nat.min_eq_left (by omega), shr_and1 _ _ h0 h1]
theorem has_I (s k : Int) (w : World) (h0 : 0 ≤ s) (h1 : s < 256) (h2 : 0 ≤ k) (h3 : k ≤ 3) :
    Calls Try.prog 112 #[.int .u8 s, .int .i64 k] w fun e w' => e = .returned (.bool (decide (s / 2 ^ k.toNat % 2 = 1))) ∧ w = w' := by
  go_enter Try.func112, Try.ntmps112
  go_wp2
  go_ret
  exact ⟨ret_bool (by rw [shr_and1 _ _ h0 h1]; rfl), rfl⟩
/-- The first place of which something is so, -1 if there is none. -/
def idxOf {α : Type} (p : α → Bool) (xs : List α) : Int := match xs.findIdx? p with | some i => i | none => -1
theorem any_step {α : Type} {p : α → Bool} {xs : List α} {k : Nat} {x : α} (h : (xs.take k).any p = false) (hx : xs[k]? = some x) (hp : p x = false) : (xs.take (k + 1)).any p = false := by
  rw [List.take_add_one, hx, List.any_append, h]
  simp [hp]
theorem idxOf_at {α : Type} {p : α → Bool} {xs : List α} {k : Nat} {x : α} (h : (xs.take k).any p = false) (hx : xs[k]? = some x) (hp : p x = true) : idxOf p xs = k := by
  have : xs.findIdx? p = some k := by
    rw [List.findIdx?_eq_some_iff_getElem]
    obtain ⟨hl, he⟩ := List.getElem?_eq_some_iff.1 hx
    refine ⟨hl, by rw [he]; exact hp, fun j hj => ?_⟩
    rw [List.any_eq_false] at h
    exact h _ (List.mem_take_iff_getElem.2 ⟨j, by omega, rfl⟩)
  unfold idxOf
  rw [this]
theorem idxOf_none {α : Type} {p : α → Bool} {xs : List α} (h : xs.any p = false) : idxOf p xs = -1 := by
  have : xs.findIdx? p = none := by
    rw [List.findIdx?_eq_none_iff]
    intro x hx
    rw [List.any_eq_false] at h
    simpa using h x hx
  unfold idxOf
  rw [this]
theorem idxOf_some {α : Type} {p : α → Bool} {xs : List α} (h : xs.any p = true) : ∃ (k : Nat) (x : α), idxOf p xs = (k : Int) ∧ xs[k]? = some x ∧ p x = true ∧ (xs.take k).any p = false := by
  cases hf : xs.findIdx? p with
  | none =>
    rw [List.findIdx?_eq_none_iff] at hf
    rw [List.any_eq_true] at h
    obtain ⟨x, hx, hp⟩ := h
    rw [hf x hx] at hp
    cases hp
  | some k =>
    have h2 := List.findIdx?_eq_some_iff_getElem.1 hf
    obtain ⟨hl, hp, hb⟩ := h2
    refine ⟨k, xs[k], by unfold idxOf; rw [hf], List.getElem?_eq_getElem hl, hp, ?_⟩
    rw [List.any_eq_false]
    intro x hx
    obtain ⟨j, hj, rfl⟩ := List.mem_take_iff_getElem.1 hx
    exact hb j (by omega)
theorem idxOf_ge {α : Type} (p : α → Bool) (xs : List α) : decide (0 ≤ idxOf p xs) = xs.any p := by
  cases h : xs.any p with
  | false => rw [idxOf_none h]; decide
  | true =>
    obtain ⟨k, x, e, _⟩ := idxOf_some h
    rw [e]; simp
theorem idxOf_le {α : Type} (p : α → Bool) (xs : List α) : -1 ≤ idxOf p xs ∧ idxOf p xs ≤ xs.length := by
  cases h : xs.any p with
  | false => rw [idxOf_none h]; omega
  | true =>
    obtain ⟨k, x, e, hx, _⟩ := idxOf_some h
    rw [e]
    have := (List.getElem?_eq_some_iff.1 hx).1
    omega
/-- What a function with a slice and a code hands back: a row of its own, and the code. -/
def ResS {α : Type} (enc : α → List Value) (n : Nat) (E : TypeId) (w : World) (R : List α) (cd : Int) (e : Ending) (w' : World) : Prop :=
  ∃ A c, e = .returned (.tuple #[.slice A R.length c, .int .i64 cd]) ∧ Below w.heap.size w w' ∧ w'.ownsRow w.heap.size E n (.slice A R.length c) R.length (R.flatMap enc)
theorem ResS.nil {α : Type} {enc : α → List Value} {n : Nat} {E : TypeId} {w w' : World} {cd : Int} (h : Below w.heap.size w w') : ResS enc n E w [] cd (.returned (.tuple #[.slice none 0 0, .int .i64 cd])) w' :=
  ⟨none, 0, rfl, h, World.ownsRow_nil _ _ _ _⟩
theorem ResS.empty {α : Type} {enc : α → List Value} {n : Nat} {E : TypeId} {w w1 : World} {cd : Int} (h : Below w.heap.size w w1) : ResS enc n E w [] cd (.returned (.tuple #[.slice (some ⟨w1.heap.size, 0, none⟩) 0 0, .int .i64 cd])) (w1.alloc (.cells #[] E)) :=
  ⟨some ⟨w1.heap.size, 0, none⟩, 0, rfl, h.alloc h.size _, World.ownsRow_lit w1 #[] 0 h.size (by simp [maxLen]) (by simp)⟩
end Go.Proofs.Ytgkgklgeobbmlaa
