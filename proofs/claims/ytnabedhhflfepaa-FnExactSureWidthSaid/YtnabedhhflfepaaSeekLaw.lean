/-
  The program's search for least ticks: what one found tick tells its neighbours, and what is known behind it.
  Conditions: none; plain law.
-/
import Derived.Test.YtnabedhhflfepaaTimeLaw
namespace Go.Proofs.Ytnabedhhflfepaa
set_option linter.unusedSimpArgs false
set_option linter.unusedVariables false

theorem opp_lt (s : Nat) : opp s < 4 := by unfold opp; omega
theorem opp_opp {s : Nat} (h : s < 4) : opp (opp s) = s := by unfold opp; omega
/-- One side may be hit at a tick: the cell of the row. -/
def addT (N : Net) (E : Nat → Nat) (k s v : Nat) : Nat → Nat := if N.can k s = true ∧ v < E (4 * k + s) then upd E (4 * k + s) v else E
theorem addT_le {N : Net} {E : Nat → Nat} (h : ∀ y, E y ≤ big) (k s v : Nat) : ∀ y, addT N E k s v y ≤ big := by
  intro y
  have := h y
  have h2 := h (4 * k + s)
  unfold addT
  split
  · unfold upd
    split <;> omega
  · exact this
theorem addT_at {N : Net} {E : Nat → Nat} (k s v y : Nat) : addT N E k s v y = if y = 4 * k + s ∧ N.can k s = true then min (E y) v else E y := by
  unfold addT
  by_cases hc : N.can k s = true
  · by_cases hv : v < E (4 * k + s)
    · rw [if_pos ⟨hc, hv⟩]
      unfold upd
      by_cases hy : y = 4 * k + s
      · rw [if_pos hy, if_pos ⟨hy, hc⟩, hy, Nat.min_eq_right (by omega)]
      · rw [if_neg hy, if_neg (fun h => hy h.1)]
    · rw [if_neg (fun h => hv h.2)]
      by_cases hy : y = 4 * k + s
      · rw [if_pos ⟨hy, hc⟩, hy, Nat.min_eq_left (by omega)]
      · rw [if_neg (fun h => hy h.1)]
  · rw [if_neg (fun h => hc h.1), if_neg (fun h => hc h.2)]
def tell (N : Net) (i : Nat) (v : Nat) (ok : Nat → Bool) (E : Nat → Nat) (s : Nat) : Nat → Nat :=
  match N.near i s with
  | some k => if ok s = true then addT N E k (opp s) v else E
  | none => E
def tells (N : Net) (i : Nat) (v : Nat) (ok : Nat → Bool) (E : Nat → Nat) : Nat → Nat → Nat
  | 0 => E
  | m + 1 => tell N i v ok (tells N i v ok E m) m
theorem tells_at {N : Net} (hN : N.Ok) {i : Nat} (hi : i < N.n) (v : Nat) (ok : Nat → Bool) (E : Nat → Nat) : ∀ m, m ≤ 4 → ∀ y,
    tells N i v ok E m y = if (y < 4 * N.n ∧ N.can (y / 4) (y % 4) = true ∧ N.near (y / 4) (y % 4) = some i) ∧ opp (y % 4) < m ∧ ok (opp (y % 4)) = true then min (E y) v else E y
  | 0, _, y => by simp [tells]
  | m + 1, hm, y => by
    have ih := tells_at hN hi v ok E m (by omega) y
    have hys : y % 4 < 4 := Nat.mod_lt _ (by omega)
    have hback : ∀ q, N.near (y / 4) (y % 4) = some q → y < 4 * N.n → q < N.n ∧ N.near q (opp (y % 4)) = some (y / 4) := fun q h hy => hN.sym _ _ _ (by omega) hys h
    unfold tells tell
    cases hk : N.near i m with
    | none =>
      dsimp only
      rw [ih]
      by_cases h : (y < 4 * N.n ∧ N.can (y / 4) (y % 4) = true ∧ N.near (y / 4) (y % 4) = some i)
      · have e1 := (hback i h.2.2 h.1).2
        have hne : opp (y % 4) ≠ m := fun e => by rw [e, hk] at e1; cases e1
        have : (opp (y % 4) < m ↔ opp (y % 4) < m + 1) := by omega
        simp only [this]
      · simp only [h, false_and]
    | some k =>
      dsimp only
      obtain ⟨hkn, hkb⟩ := hN.sym i m k hi (by omega) hk
      by_cases ho : ok m = true
      · rw [if_pos ho, addT_at, ih]
        by_cases hy : y = 4 * k + opp m
        · have h4 := opp_lt m
          have hy1 : y / 4 = k := by omega
          have hy2 : y % 4 = opp m := by omega
          have hoo := opp_opp (show m < 4 by omega)
          rw [hy1, hy2, hoo]
          have hlt : ¬ m < m := by omega
          simp only [hy, hkb, hlt, ho, true_and, and_true, false_and, and_false, if_false, Nat.lt_succ_self]
          have hyn : 4 * k + opp m < 4 * N.n := by omega
          simp only [hyn, true_and]
        · have : ∀ P : Prop, (y = 4 * k + opp m ∧ P) = False := fun P => by simp [hy]
          simp only [this, if_false]
          by_cases h : (y < 4 * N.n ∧ N.can (y / 4) (y % 4) = true ∧ N.near (y / 4) (y % 4) = some i)
          · have e1 := (hback i h.2.2 h.1).2
            have hne : opp (y % 4) ≠ m := fun e => by
              rw [e, hk] at e1
              cases e1
              have h5 := opp_opp hys
              rw [e] at h5
              omega
            have : (opp (y % 4) < m ↔ opp (y % 4) < m + 1) := by omega
            simp only [this]
          · simp only [h, false_and]
      · rw [if_neg ho, ih]
        by_cases e : opp (y % 4) = m
        · rw [e]
          simp only [ho, and_false, Bool.false_eq_true]
        · have : (opp (y % 4) < m ↔ opp (y % 4) < m + 1) := by omega
          simp only [this]
theorem tells_le {N : Net} {i v : Nat} {ok : Nat → Bool} {E : Nat → Nat} (h : ∀ y, E y ≤ big) : ∀ m y, tells N i v ok E m y ≤ big
  | 0, y => h y
  | m + 1, y => by
    show tell N i v ok (tells N i v ok E m) m y ≤ big
    unfold tell
    cases N.near i m with
    | none => exact tells_le h m y
    | some k =>
      dsimp only
      by_cases ho : ok m = true
      · rw [if_pos ho]; exact addT_le (tells_le h m) _ _ _ y
      · rw [if_neg ho]; exact tells_le h m y
/-- What an earliest hit leads to, told side by side. -/
theorem tells_early {N : Net} (hN : N.Ok) (L : Nat → Nat) {i side t : Nat} (hi : i < N.n) (ht : t < big) {E : Nat → Nat} (hE : ∀ y, E y ≤ big) (hb : bef L i t side = false) (y : Nat) :
    tells N i (t + N.low i) (fun s => N.hit i side s) E 4 y = min (E y) (leadE N L i side t y) := by
  rw [tells_at hN hi _ _ _ 4 (by omega)]
  have h4 := opp_lt (y % 4)
  have hy := hE y
  unfold leadE
  by_cases h : (y < 4 * N.n ∧ N.can (y / 4) (y % 4) = true ∧ N.near (y / 4) (y % 4) = some i)
  · rw [if_pos h]
    unfold gE
    by_cases hh : N.hit i side (opp (y % 4)) = true
    · rw [if_pos ⟨h, h4, hh⟩, if_pos ⟨by rw [hb]; simp [ht], hh⟩]
      omega
    · rw [if_neg (fun x => hh x.2.2), if_neg (fun x => hh x.2)]
      omega
  · rw [if_neg (fun x => h x.1), if_neg h]
    omega
theorem before_early {N : Net} (L : Nat → Nat) {i side t : Nat} {E : Nat → Nat} (hE : ∀ y, E y ≤ big) (hb : bef L i t side = true) (y : Nat) : E y = min (E y) (leadE N L i side t y) := by
  have hy := hE y
  unfold leadE gE
  rw [hb]
  simp only [Bool.not_true, Bool.and_false, Bool.false_eq_true, false_and, if_false]
  split <;> omega
theorem tells_late {N : Net} (hN : N.Ok) (S : Nat → Nat → Bool) {i t : Nat} (hi : i < N.n) {E : Nat → Nat} (hE : ∀ y, E y ≤ big) (y : Nat) :
    tells N i (t + N.high i) (fun s => always N S i s) E 4 y = min (E y) (leadL N S false i t y) := by
  rw [tells_at hN hi _ _ _ 4 (by omega)]
  have h4 := opp_lt (y % 4)
  have hy := hE y
  by_cases h : (y < 4 * N.n ∧ N.can (y / 4) (y % 4) = true ∧ N.near (y / 4) (y % 4) = some i)
  · have e : leadL N S false i t y = gL N S i (opp (y % 4)) t := by unfold leadL; rw [if_pos ⟨rfl, h⟩]
    rw [e]
    unfold gL
    by_cases hh : always N S i (opp (y % 4)) = true
    · rw [if_pos ⟨h, h4, hh⟩, if_pos hh]
      omega
    · rw [if_neg (fun x => hh x.2.2), if_neg hh]
      omega
  · have e : leadL N S false i t y = big := by unfold leadL; rw [if_neg (fun x => h x.2)]
    rw [e, if_neg (fun x => h x.1)]
    omega
theorem seen_late {N : Net} (S : Nat → Nat → Bool) {i t : Nat} {E : Nat → Nat} (hE : ∀ y, E y ≤ big) (y : Nat) : E y = min (E y) (leadL N S true i t y) := by
  have hy := hE y
  unfold leadL
  rw [if_neg (by simp)]
  omega
/-! ### The least one of what is not done -/
structure Pick (D : Nat → Bool) (E : Nat → Nat) (m : Nat) (x : Nat) : Prop where
  lt : x < m
  fresh : D x = false
  fin : E x < big
  min : ∀ y, y < m → D y = false → E x ≤ E y
def NoPick (D : Nat → Bool) (E : Nat → Nat) (m : Nat) : Prop := ∀ y, y < m → D y = false → ¬ E y < big
theorem Pick.skip {D : Nat → Bool} {E : Nat → Nat} {m x : Nat} (h : Pick D E m x) (hs : D m = true ∨ ¬ E m < E x) : Pick D E (m + 1) x := by
  refine ⟨by have := h.lt; omega, h.fresh, h.fin, fun y hy hd => ?_⟩
  rcases Nat.lt_or_ge y m with h1 | h1
  · exact h.min y h1 hd
  · obtain rfl : y = m := by omega
    rcases hs with h2 | h2
    · rw [hd] at h2; cases h2
    · omega
theorem Pick.take {D : Nat → Bool} {E : Nat → Nat} {m x : Nat} (h : Pick D E m x) (hd : D m = false) (hs : E m < E x) : Pick D E (m + 1) m := by
  refine ⟨by omega, hd, by have := h.fin; omega, fun y hy hd2 => ?_⟩
  rcases Nat.lt_or_ge y m with h1 | h1
  · have := h.min y h1 hd2; omega
  · obtain rfl : y = m := by omega
    exact Nat.le_refl _
theorem NoPick.skip {D : Nat → Bool} {E : Nat → Nat} {m : Nat} (h : NoPick D E m) (hs : D m = true ∨ ¬ E m < big) : NoPick D E (m + 1) := by
  intro y hy hd
  rcases Nat.lt_or_ge y m with h1 | h1
  · exact h y h1 hd
  · obtain rfl : y = m := by omega
    rcases hs with h2 | h2
    · rw [hd] at h2; cases h2
    · exact h2
theorem NoPick.take {D : Nat → Bool} {E : Nat → Nat} {m : Nat} (h : NoPick D E m) (hd : D m = false) (hs : E m < big) : Pick D E (m + 1) m := by
  refine ⟨by omega, hd, hs, fun y hy hd2 => ?_⟩
  rcases Nat.lt_or_ge y m with h1 | h1
  · have := h y h1 hd2; omega
  · obtain rfl : y = m := by omega
    exact Nat.le_refl _
/-- How many are not done. -/
def undone (D : Nat → Bool) : Nat → Nat
  | 0 => 0
  | m + 1 => undone D m + (if D m = true then 0 else 1)
theorem undone_le (D : Nat → Bool) : ∀ m, undone D m ≤ m
  | 0 => Nat.le_refl _
  | m + 1 => by have := undone_le D m; unfold undone; split <;> omega
theorem undone_same {D : Nat → Bool} {x : Nat} : ∀ m, m ≤ x → undone (fun y => decide (y = x) || D y) m = undone D m
  | 0, _ => rfl
  | m + 1, h => by
    have ih := undone_same (D := D) (x := x) m (by omega)
    unfold undone
    rw [ih]
    have : decide (m = x) = false := by rw [decide_eq_false_iff_not]; omega
    simp only [this, Bool.false_or]
theorem undone_step {D : Nat → Bool} {x : Nat} (hx : D x = false) : ∀ m, x < m → undone (fun y => decide (y = x) || D y) m + 1 = undone D m
  | 0, h => by omega
  | m + 1, h => by
    rcases Nat.lt_or_ge x m with h1 | h1
    · have ih := undone_step hx m h1
      unfold undone
      have : decide (m = x) = false := by rw [decide_eq_false_iff_not]; omega
      simp only [this, Bool.false_or]
      omega
    · obtain rfl : m = x := by omega
      have ih := undone_same (D := D) (x := m) m (Nat.le_refl _)
      unfold undone
      rw [ih, hx]
      simp
/-! ### The start: the pushes -/
def pushF (N : Net) (P : Nat → Nat → Nat) (y : Nat) : Nat := if y < 4 * N.n ∧ N.can (y / 4) (y % 4) = true then P (y / 4) (y % 4) else big
theorem best4_bigs : best4 (fun _ => big) = big := rfl
theorem early_begin {N : Net} (hN : N.Ok) (L : Nat → Nat) (y : Nat) : pushF N N.push y = earlyF N L (fun _ => big) y := by
  unfold pushF earlyF
  have hp := push_le hN (y / 4) (y % 4)
  split
  · cases N.near (y / 4) (y % 4) with
    | none => dsimp only; omega
    | some q =>
      dsimp only
      have : (fun fr => gE N L q fr (opp (y % 4)) big) = fun _ => big := by
        funext fr
        exact (gE_lead hN L q fr _).top (Nat.le_refl _)
      rw [this, best4_bigs]
      omega
  · rfl
theorem late_begin {N : Net} (hN : N.Ok) (S : Nat → Nat → Bool) (y : Nat) : pushF N N.push y = lateF N S (fun _ => big) y := by
  unfold pushF lateF
  have hp := push_le hN (y / 4) (y % 4)
  split
  · cases N.near (y / 4) (y % 4) with
    | none => dsimp only; omega
    | some q =>
      dsimp only
      rw [best4_bigs, (gL_lead hN S q (opp (y % 4))).top (Nat.le_refl _)]
      omega
  · rfl
theorem mask_none (E : Nat → Nat) : mask (fun _ => false) E = fun _ => big := by funext y; simp [mask]
theorem found_begin {F : (Nat → Nat) → Nat → Nat} {E : Nat → Nat} (h : ∀ y, E y = F (fun _ => big) y) : Found F (fun _ => false) E :=
  ⟨fun y => (by rw [mask_none]; exact h y), fun x hx => (by cases hx), fun x y hx => (by cases hx)⟩
/-! ### A step of the earliest, of the latest hits -/
theorem mask_fresh {D : Nat → Bool} {E : Nat → Nat} {x : Nat} (h : D x = false) : mask D E x = big := by simp [mask, h]
theorem found_early {N : Net} (hN : N.Ok) (L : Nat → Nat) {D : Nat → Bool} {E : Nat → Nat} (h : Found (earlyF N L) D E) {i side : Nat} (hi : i < N.n) (hs : side < 4) (hx : Pick D E (4 * N.n) (4 * i + side)) :
    Found (earlyF N L) (fun y => decide (y = 4 * i + side) || D y) (fun y => min (E y) (leadE N L i side (E (4 * i + side)) y)) := by
  have hle : ∀ y, E y ≤ big := fun y => by rw [h.eq y]; exact (early_tick hN L).le _ _
  refine h.step (early_tick hN L) hx.fresh hx.fin (fun y hy => ?_) (fun y => ?_) (fun y => early_found hN L hs (mask_fresh hx.fresh) y)
  · rcases Nat.lt_or_ge y (4 * N.n) with h1 | h1
    · exact hx.min y h1 hy
    · have := (early_slow hN L).out (mask D E) y h1
      rw [← h.eq y] at this
      have := hx.fin
      omega
  · unfold leadE
    have := hx.fin
    split
    · have := (gE_lead hN L i side (opp (y % 4))).later (E (4 * i + side))
      omega
    · exact hx.fin
def seenBy (D : Nat → Bool) (i : Nat) : Bool := D (4 * i) || D (4 * i + 1) || D (4 * i + 2) || D (4 * i + 3)
theorem seenBy_true {D : Nat → Bool} {i : Nat} (h : seenBy D i = true) : ∃ k, k < 4 ∧ D (4 * i + k) = true := by
  unfold seenBy at h
  simp only [Bool.or_eq_true] at h
  rcases h with ((h | h) | h) | h
  · exact ⟨0, by omega, h⟩
  · exact ⟨1, by omega, h⟩
  · exact ⟨2, by omega, h⟩
  · exact ⟨3, by omega, h⟩
theorem seenBy_false {D : Nat → Bool} {i : Nat} (h : seenBy D i = false) : ∀ k, k < 4 → D (4 * i + k) = false := by
  unfold seenBy at h
  simp only [Bool.or_eq_false_iff] at h
  obtain ⟨⟨⟨h0, h1⟩, h2⟩, h3⟩ := h
  intro k hk
  have : k = 0 ∨ k = 1 ∨ k = 2 ∨ k = 3 := by omega
  rcases this with rfl | rfl | rfl | rfl
  · exact h0
  · exact h1
  · exact h2
  · exact h3
theorem seenBy_step {D : Nat → Bool} {i side j : Nat} (hs : side < 4) : seenBy (fun y => decide (y = 4 * i + side) || D y) j = (decide (j = i) || seenBy D j) := by
  have hs4 : side = 0 ∨ side = 1 ∨ side = 2 ∨ side = 3 := by omega
  by_cases e : j = i
  · subst e
    unfold seenBy
    rcases hs4 with rfl | rfl | rfl | rfl <;> simp
  · have : ∀ k, k < 4 → decide (4 * j + k = 4 * i + side) = false := fun k hk => by rw [decide_eq_false_iff_not]; omega
    unfold seenBy
    simp only [this 1 (by omega), this 2 (by omega), this 3 (by omega), show decide (4 * j = 4 * i + side) = false from this 0 (by omega), e, decide_false, Bool.false_or]
theorem found_late {N : Net} (hN : N.Ok) (S : Nat → Nat → Bool) {D : Nat → Bool} {E : Nat → Nat} (h : Found (lateF N S) D E) {i side : Nat} (hi : i < N.n) (hs : side < 4) (hx : Pick D E (4 * N.n) (4 * i + side)) :
    Found (lateF N S) (fun y => decide (y = 4 * i + side) || D y) (fun y => min (E y) (leadL N S (seenBy D i) i (E (4 * i + side)) y)) := by
  have hle : ∀ y, E y ≤ big := fun y => by rw [h.eq y]; exact (late_tick hN S).le _ _
  refine h.step (late_tick hN S) hx.fresh hx.fin (fun y hy => ?_) (fun y => ?_) (fun y => late_found hN S hs (mask_fresh hx.fresh) (hle _) (fun hse k hk => mask_fresh (seenBy_false hse k hk)) (fun hse => ?_) y)
  · rcases Nat.lt_or_ge y (4 * N.n) with h1 | h1
    · exact hx.min y h1 hy
    · have := (late_slow hN S).out (mask D E) y h1
      rw [← h.eq y] at this
      have := hx.fin
      omega
  · unfold leadL
    have := hx.fin
    split
    · have := (gL_lead hN S i (opp (y % 4))).later (E (4 * i + side))
      omega
    · exact hx.fin
  · obtain ⟨k, hk, hd⟩ := seenBy_true hse
    refine ⟨k, hk, ?_⟩
    unfold mask
    rw [if_pos hd]
    exact h.ord _ _ hd hx.fresh
/-- All is done. -/
theorem found_end {N : Net} {F : (Nat → Nat) → Nat → Nat} (hT : Tick F) (hS : Slow F (4 * N.n)) {D : Nat → Bool} {E : Nat → Nat} (h : Found F D E) (hn : NoPick D E (4 * N.n)) : (∀ y, E y = fixp F y) ∧ ∀ y, y < 4 * N.n → D y = decide (E y < big) := by
  refine ⟨h.done hT fun y hy => ?_, fun y hy => ?_⟩
  · rcases Nat.lt_or_ge y (4 * N.n) with h1 | h1
    · exact hn y h1 hy
    · have := hS.out (mask D E) y h1
      rw [← h.eq y] at this
      omega
  · cases hd : D y with
    | true => exact (decide_eq_true (h.fin y hd)).symm
    | false => exact (decide_eq_false (hn y hy hd)).symm
end Go.Proofs.Ytnabedhhflfepaa
