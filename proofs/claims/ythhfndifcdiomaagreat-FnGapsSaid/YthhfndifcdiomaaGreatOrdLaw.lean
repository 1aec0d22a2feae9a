/-
  Plain law of orders: some pieces of a board alone, in the board's order or in that of a list; the best next piece; the peak.
  Conditions: none; plain law.
-/
import Derived.Test.YthhfndifcdiomaaGreatBoF
import Derived.Test.YthhfndifcdiomaaGreatGaps
namespace Go.Proofs.YthhfndifcdiomaaGreat
open Go.RowKit
set_option linter.unusedSimpArgs false
set_option linter.unusedVariables false

/-- The pieces of some numbers, in the board's order. -/
def someL (gs : List Int) : Nat → List Pc → List Pc
  | _, [] => []
  | i, p :: l => if gs.any (isN (i : Int)) = true then p :: someL gs (i + 1) l else someL gs (i + 1) l
/-- .. in the list's order. -/
def onlyL (xs : List Pc) (gs : List Int) : List Pc := gs.filterMap (fun g => xs[g.toNat]?)
theorem any_isN {gs : List Int} {n : Int} : gs.any (isN n) = true ↔ n ∈ gs := by
  rw [List.any_eq_true]
  unfold isN
  constructor
  · rintro ⟨x, hx, h⟩
    simp only [decide_eq_true_eq, beq_iff_eq] at h
    rw [← h]; exact hx
  · intro h
    exact ⟨n, h, by simp⟩
theorem some_sub (gs : List Int) : ∀ (xs : List Pc) (i : Nat), (someL gs i xs).Sublist xs
  | [], _ => List.Sublist.refl _
  | p :: l, i => by
    unfold someL
    split
    · exact (some_sub gs l (i + 1)).cons_cons p
    · exact (some_sub gs l (i + 1)).cons p
theorem some_snoc (gs : List Int) (p : Pc) : ∀ (l : List Pc) (i : Nat), someL gs i (l ++ [p]) = someL gs i l ++ (if gs.any (isN ((i + l.length : Nat) : Int)) = true then [p] else [])
  | [], i => by
    simp only [List.nil_append, someL, List.length_nil, Nat.add_zero]
  | q :: l, i => by
    have ih := some_snoc gs p l (i + 1)
    rw [List.cons_append]
    unfold someL
    rw [ih, show i + 1 + l.length = i + (q :: l).length by simp; omega]
    split <;> simp
theorem some_step {gs : List Int} {xs : List Pc} {k : Nat} {p : Pc} (hp : xs[k]? = some p) : someL gs 0 (xs.take (k + 1)) = someL gs 0 (xs.take k) ++ (if gs.any (isN (k : Int)) = true then [p] else []) := by
  have hk := (List.getElem?_eq_some_iff.1 hp).1
  have hl : (xs.take k).length = k := by simp; omega
  rw [List.take_add_one, hp, Option.toList, some_snoc, hl, Nat.zero_add]
/-- As a list of numbers. -/
theorem some_map (gs : List Int) (xs : List Pc) : ∀ (l : List Pc) (i : Nat), (∀ j, j < l.length → xs[i + j]? = l[j]?) → someL gs i l = ((List.range l.length).filter (fun j => gs.any (isN ((i + j : Nat) : Int)))).filterMap (fun j => xs[i + j]?)
  | [], _, _ => rfl
  | p :: l, i, h => by
    have ih := some_map gs xs l (i + 1) (fun j hj => by have := h (j + 1) (by simp; omega); rw [show i + 1 + j = i + (j + 1) by omega]; simpa using this)
    have h0 : xs[i + 0]? = some p := h 0 (by simp)
    unfold someL
    rw [ih]
    have e : (p :: l).length = l.length + 1 := rfl
    rw [e, List.range_succ_eq_map, List.filter_cons, List.filter_map]
    have e2 : (fun j => gs.any (isN ((i + 1 + j : Nat) : Int))) = ((fun j => gs.any (isN ((i + j : Nat) : Int))) ∘ Nat.succ) := by
      funext j
      simp only [Function.comp]
      rw [show i + 1 + j = i + Nat.succ j by omega]
    have e3 : (fun j => xs[i + 1 + j]?) = ((fun j => xs[i + j]?) ∘ Nat.succ) := by
      funext j
      simp only [Function.comp]
      rw [show i + 1 + j = i + Nat.succ j by omega]
    rw [e2, e3, Nat.add_zero]
    split
    · rw [List.filterMap_cons_some (f := fun j => xs[i + j]?) h0, List.filterMap_map]
    · rw [List.filterMap_map]
theorem only_perm {xs : List Pc} {gs : List Int} (hn : gs.Nodup) (hr : ∀ g ∈ gs, 0 ≤ g ∧ g < xs.length) : (onlyL xs gs).Perm (someL gs 0 xs) := by
  rw [some_map gs xs xs 0 (fun j hj => by rw [Nat.zero_add])]
  have e1 : onlyL xs gs = (gs.map Int.toNat).filterMap (fun j => xs[0 + j]?) := by
    unfold onlyL
    rw [List.filterMap_map]
    congr 1
    funext g
    simp
  rw [e1]
  refine List.Perm.filterMap _ ?_
  have hn2 : (gs.map Int.toNat).Nodup := by
    unfold List.Nodup at hn ⊢
    rw [List.pairwise_map]
    refine hn.imp_of_mem (fun {a b} ha hb hne e => hne ?_)
    have := hr a ha
    have := hr b hb
    omega
  rw [List.perm_ext_iff_of_nodup hn2 (List.nodup_range.sublist List.filter_sublist)]
  intro a
  rw [List.mem_filter, List.mem_range, List.mem_map, Nat.zero_add, any_isN]
  constructor
  · rintro ⟨g, hg, rfl⟩
    have := hr g hg
    exact ⟨by omega, by rw [Int.toNat_of_nonneg this.1]; exact hg⟩
  · rintro ⟨h1, h2⟩
    exact ⟨_, h2, by simp⟩
theorem costW_only {xs : List Pc} (hx : BrdOk xs) {gs : List Int} (hn : gs.Nodup) (hr : ∀ g ∈ gs, 0 ≤ g ∧ g < xs.length) : costW (onlyL xs gs) = costW (someL gs 0 xs) ∧ BrdOk (onlyL xs gs) :=
  have h := hx.part (some_sub gs xs 0)
  ⟨costW_perm h (only_perm hn hr), h.perm (only_perm hn hr)⟩
theorem only_len {xs : List Pc} {gs : List Int} (hr : ∀ g ∈ gs, 0 ≤ g ∧ g < xs.length) : (onlyL xs gs).length = gs.length := by
  induction gs with
  | nil => rfl
  | cons g r ih =>
    have h := hr g List.mem_cons_self
    have e : xs[g.toNat]? = some (xs[g.toNat]'(by omega)) := List.getElem?_eq_getElem _
    unfold onlyL at ih ⊢
    rw [List.filterMap_cons_some (f := fun g : Int => xs[g.toNat]?) e, List.length_cons, List.length_cons, ih (fun x hx => hr x (List.mem_cons_of_mem _ hx))]
theorem only_step {xs : List Pc} {gs : List Int} {k : Nat} {g : Int} {p : Pc} (hk : gs[k]? = some g) (hp : xs[g.toNat]? = some p) : onlyL xs (gs.take (k + 1)) = onlyL xs (gs.take k) ++ [p] := by
  unfold onlyL
  rw [List.take_add_one, hk, List.filterMap_append]
  simp [hp]
/-- The best next number: it is free, and costs least. -/
def turnB (cost : Nat → Int) (has : Nat → Bool) : Nat → Int × Int
  | 0 => (-1, 0)
  | i + 1 => if has i = true then turnB cost has i else if (turnB cost has i).1 < 0 ∨ cost i < (turnB cost has i).2 then ((i : Int), cost i) else turnB cost has i
theorem turn_in (cost : Nat → Int) (has : Nat → Bool) : ∀ k, (-1 ≤ (turnB cost has k).1 ∧ (turnB cost has k).1 < k) ∧ (0 ≤ (turnB cost has k).1 → has (turnB cost has k).1.toNat = false ∧ (turnB cost has k).2 = cost (turnB cost has k).1.toNat) ∧ (∀ i, i < k → has i = false → 0 ≤ (turnB cost has k).1) ∧ ((turnB cost has k).1 < 0 → (turnB cost has k).2 = 0)
  | 0 => ⟨⟨by simp [turnB], by simp [turnB]⟩, fun h => absurd h (by simp [turnB]), fun i hi => by omega, fun _ => rfl⟩
  | k + 1 => by
    obtain ⟨h1, h2, h3, h4⟩ := turn_in cost has k
    unfold turnB
    by_cases hk : has k = true
    · rw [if_pos hk]
      refine ⟨by omega, h2, fun i hi hf => ?_, h4⟩
      rcases Nat.lt_or_ge i k with h | h
      · exact h3 i h hf
      · obtain rfl : i = k := by omega
        rw [hk] at hf; cases hf
    · rw [if_neg hk]
      have hkf : has k = false := by simpa using hk
      split
      · refine ⟨by dsimp only; omega, fun _ => ?_, fun i _ _ => by dsimp only; omega, fun h => by dsimp only at h; omega⟩
        dsimp only
        rw [Int.toNat_natCast]
        exact ⟨hkf, rfl⟩
      · rename_i hn
        refine ⟨by omega, h2, fun i hi hf => ?_, h4⟩
        omega
theorem turn_congr {cost cost' : Nat → Int} {has : Nat → Bool} : ∀ k, (∀ i, i < k → has i = false → cost i = cost' i) → turnB cost has k = turnB cost' has k
  | 0, _ => rfl
  | k + 1, h => by
    have ih := turn_congr k (fun i hi => h i (by omega))
    unfold turnB
    rw [ih]
    by_cases hk : has k = true
    · rw [if_pos hk, if_pos hk]
    · rw [if_neg hk, if_neg hk, h k (by omega) (by simpa using hk)]
/-- The order that is found. -/
def costS (xs : List Pc) (o : List Int) (i : Nat) : Int := costW (someL (o ++ [(i : Int)]) 0 xs)
def hasO (o : List Int) (i : Nat) : Bool := o.any (isN (i : Int))
def ordT (xs : List Pc) : Nat → List Int
  | 0 => []
  | m + 1 => ordT xs m ++ [(turnB (costS xs (ordT xs m)) (hasO (ordT xs m)) xs.length).1]
def leastT (xs : List Pc) (m : Nat) : Int := (turnB (costS xs (ordT xs m)) (hasO (ordT xs m)) xs.length).2
def peakT (xs : List Pc) : Nat → Int
  | 0 => 0
  | m + 1 => max (peakT xs m) (leastT xs m)
theorem free_one {n : Nat} {o : List Int} (ho : o.length < n) : ∃ i, i < n ∧ hasO o i = false := by
  refine Classical.byContradiction fun hno => ?_
  have hall : ∀ i, i < n → (i : Int) ∈ o := fun i hi => by
    cases h : hasO o i with
    | true => exact any_isN.1 h
    | false => exact absurd ⟨i, hi, h⟩ hno
  have hnd : ((List.range n).map (fun (i : Nat) => (i : Int))).Nodup := by
    unfold List.Nodup
    rw [List.pairwise_map]
    exact List.nodup_range.imp (fun h e => h (by omega))
  have := hnd.length_le_of_subset (l₂ := o) (fun x hx => by
    obtain ⟨i, hi, rfl⟩ := List.mem_map.1 hx
    exact hall i (List.mem_range.1 hi))
  simp at this
  omega
theorem ord_ok (xs : List Pc) : ∀ m, m ≤ xs.length → (ordT xs m).length = m ∧ (ordT xs m).Nodup ∧ ∀ g ∈ ordT xs m, 0 ≤ g ∧ g < xs.length
  | 0, _ => ⟨rfl, List.nodup_nil, fun g hg => absurd hg List.not_mem_nil⟩
  | m + 1, hm => by
    obtain ⟨h1, h2, h3⟩ := ord_ok xs m (by omega)
    obtain ⟨i, hi, hf⟩ := free_one (n := xs.length) (o := ordT xs m) (by omega)
    obtain ⟨t1, t2, t3, _⟩ := turn_in (costS xs (ordT xs m)) (hasO (ordT xs m)) xs.length
    have t4 := t3 i hi hf
    have t5 := (t2 t4).1
    rw [show ordT xs (m + 1) = ordT xs m ++ [(turnB (costS xs (ordT xs m)) (hasO (ordT xs m)) xs.length).1] from rfl]
    generalize (turnB (costS xs (ordT xs m)) (hasO (ordT xs m)) xs.length) = u at *
    have t6 : (ordT xs m).any (isN (u.1.toNat : Int)) = false := t5
    rw [Int.toNat_of_nonneg t4] at t6
    refine ⟨by rw [List.length_append, h1]; rfl, ?_, fun g hg => ?_⟩
    · unfold List.Nodup
      rw [List.pairwise_append]
      refine ⟨h2, List.pairwise_singleton _ _, fun a ha b hb e => ?_⟩
      rw [List.mem_singleton] at hb
      subst hb
      subst e
      rw [any_isN.2 ha] at t6
      cases t6
    · rcases List.mem_append.1 hg with h | h
      · exact h3 g h
      · rw [List.mem_singleton] at h
        subst h
        omega
theorem least_eq (xs : List Pc) {m : Nat} (hm : m < xs.length) : leastT xs m = costW (someL (ordT xs (m + 1)) 0 xs) := by
  obtain ⟨h1, h2, h3⟩ := ord_ok xs m (by omega)
  obtain ⟨i, hi, hf⟩ := free_one (n := xs.length) (o := ordT xs m) (by omega)
  obtain ⟨t1, t2, t3, _⟩ := turn_in (costS xs (ordT xs m)) (hasO (ordT xs m)) xs.length
  have t4 := t3 i hi hf
  have key : ∀ b : Int, 0 ≤ b → costS xs (ordT xs m) b.toNat = costW (someL (ordT xs m ++ [b]) 0 xs) := fun b hb => by unfold costS; rw [Int.toNat_of_nonneg hb]
  unfold leastT
  rw [(t2 t4).2, key _ t4]
  rfl
theorem ord_take (xs : List Pc) : ∀ m k, k ≤ m → m ≤ xs.length → (ordT xs m).take k = ordT xs k
  | 0, k, hk, _ => by
    have : k = 0 := by omega
    subst this
    simp [ordT]
  | m + 1, k, hk, hm => by
    have h1 := (ord_ok xs m (by omega)).1
    by_cases e : k = m + 1
    · subst e
      rw [List.take_of_length_le (by rw [(ord_ok xs (m + 1) hm).1]; exact Nat.le_refl _)]
    · rw [show ordT xs (m + 1) = ordT xs m ++ [(turnB (costS xs (ordT xs m)) (hasO (ordT xs m)) xs.length).1] from rfl, List.take_append_of_le_length (by omega)]
      exact ord_take xs m k (by omega) (by omega)
/-- The peak over an order's boards. -/
def worstsL (xs : List Pc) (o : List Int) : Nat → List Int
  | 0 => []
  | k + 1 => worstsL xs o k ++ [costW (someL (o.take (k + 1)) 0 xs)]
def peakL : List Int → Int := fun l => l.foldl max 0
theorem peak_worsts (xs : List Pc) : ∀ m, m ≤ xs.length → peakL (worstsL xs (ordT xs xs.length) m) = peakT xs m
  | 0, _ => rfl
  | m + 1, hm => by
    have ih := peak_worsts xs m (by omega)
    unfold peakL at ih ⊢
    unfold worstsL peakT
    rw [List.foldl_append, ih, ord_take xs xs.length (m + 1) hm (Nat.le_refl _), least_eq xs (by omega)]
    rfl
theorem worsts_len (xs : List Pc) (o : List Int) : ∀ k, (worstsL xs o k).length = k
  | 0 => rfl
  | k + 1 => by unfold worstsL; rw [List.length_append, worsts_len xs o k]; rfl
theorem ord_next {xs : List Pc} {m i : Nat} (hm : m < xs.length) (hi : i < xs.length) (hf : hasO (ordT xs m) i = false) : (ordT xs m ++ [(i : Int)]).Nodup ∧ ∀ g ∈ ordT xs m ++ [(i : Int)], 0 ≤ g ∧ g < xs.length := by
  obtain ⟨h1, h2, h3⟩ := ord_ok xs m (by omega)
  refine ⟨?_, fun g hg => ?_⟩
  · unfold List.Nodup
    rw [List.pairwise_append]
    refine ⟨h2, List.pairwise_singleton _ _, fun a ha b hb e => ?_⟩
    rw [List.mem_singleton] at hb
    subst hb
    subst e
    unfold hasO at hf
    rw [any_isN.2 ha] at hf
    cases hf
  · rcases List.mem_append.1 hg with h | h
    · exact h3 g h
    · rw [List.mem_singleton] at h
      subst h
      omega
theorem ord_best (xs : List Pc) {m : Nat} (hm : m < xs.length) : 0 ≤ (turnB (costS xs (ordT xs m)) (hasO (ordT xs m)) xs.length).1 := by
  obtain ⟨i, hi, hf⟩ := free_one (n := xs.length) (o := ordT xs m) (by have := (ord_ok xs m (by omega)).1; omega)
  exact (turn_in (costS xs (ordT xs m)) (hasO (ordT xs m)) xs.length).2.2.1 i hi hf
end Go.Proofs.YthhfndifcdiomaaGreat
