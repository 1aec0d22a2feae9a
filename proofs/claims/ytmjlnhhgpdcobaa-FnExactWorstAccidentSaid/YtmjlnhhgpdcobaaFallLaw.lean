/-
  How a board falls, as a system of least keys (four times the tick, and the side): it has one solution, and whatever finds one, finds it.
  Conditions: none; plain law.
-/
import Derived.Test.YtmjlnhhgpdcobaaTimeLaw
namespace Go.Proofs.Ytmjlnhhgpdcobaa
set_option linter.unusedSimpArgs false
set_option linter.unusedVariables false

/-- A system whose keys hang on keys of earlier ticks alone. -/
structure Tk4 (F : (Nat → Nat) → Nat → Nat) : Prop where
  le : ∀ E y, F E y ≤ big
  causal : ∀ v E E', (∀ y, E y ≤ big) → (∀ y, E' y ≤ big) → agree (4 * v) E E' → agree (4 * (v + 1)) (F E) (F E')
theorem Tk4.uniq {F : (Nat → Nat) → Nat → Nat} (h : Tk4 F) {E E' : Nat → Nat} (e : ∀ y, E y = F E y) (e' : ∀ y, E' y = F E' y) : ∀ y, E y = E' y := by
  have hE : ∀ y, E y ≤ big := fun y => by rw [e y]; exact h.le _ _
  have hE' : ∀ y, E' y ≤ big := fun y => by rw [e' y]; exact h.le _ _
  have key : ∀ v, agree (4 * v) E E' := by
    intro v
    induction v with
    | zero => intro y; simp
    | succ v ih =>
      intro y
      have := h.causal v E E' hE hE' ih y
      rw [← e y, ← e' y] at this
      exact this
  intro y
  have := key (E y + E' y) y
  omega
theorem Tk4.iter_le {F : (Nat → Nat) → Nat → Nat} (h : Tk4 F) : ∀ k y, iterF F k y ≤ big
  | 0, _ => Nat.le_refl _
  | k + 1, y => h.le _ _
theorem Tk4.fix {F : (Nat → Nat) → Nat → Nat} (h : Tk4 F) : ∀ y, fixp F y = F (fixp F) y := by
  have key : ∀ v, agree (4 * v) (iterF F v) (iterF F (v + 1)) := by
    intro v
    induction v with
    | zero => intro y; simp
    | succ v ih => exact h.causal v _ _ (h.iter_le _) (h.iter_le _) ih
  intro y
  have h1 := key (big + 1) y
  have h2 := h.iter_le (big + 1) y
  have h3 := h.iter_le (big + 1 + 1) y
  have : iterF F (big + 1) y = iterF F (big + 1 + 1) y := by omega
  exact this
theorem Tk4.fix_le {F : (Nat → Nat) → Nat → Nat} (h : Tk4 F) (y : Nat) : fixp F y ≤ big := h.iter_le _ _
theorem Tk4.is_fix {F : (Nat → Nat) → Nat → Nat} (h : Tk4 F) {E : Nat → Nat} (e : ∀ y, E y = F E y) : ∀ y, E y = fixp F y := h.uniq e h.fix
/-- What has been found, from the least tick on. -/
structure Fnd (F : (Nat → Nat) → Nat → Nat) (D : Nat → Bool) (E : Nat → Nat) : Prop where
  eq : ∀ y, E y = F (mask D E) y
  fin : ∀ x, D x = true → E x < big
  ord : ∀ x y, D x = true → D y = false → E x / 4 ≤ E y / 4
theorem Fnd.done {F : (Nat → Nat) → Nat → Nat} {D : Nat → Bool} {E : Nat → Nat} (h : Fnd F D E) (hT : Tk4 F) (hn : ∀ y, D y = false → ¬ E y < big) : ∀ y, E y = fixp F y := by
  refine hT.is_fix fun y => ?_
  have : mask D E = E := by
    funext z
    unfold mask
    split
    · rfl
    · rename_i hz
      have h1 := hn z (by simpa using hz)
      have h2 : E z ≤ big := by rw [h.eq z]; exact hT.le _ _
      omega
  rw [← this, ← h.eq y]
  rw [this]
theorem Fnd.step {F : (Nat → Nat) → Nat → Nat} {D : Nat → Bool} {E : Nat → Nat} (h : Fnd F D E) {x : Nat} (hx : D x = false) (hfin : E x < big) (hmin : ∀ y, D y = false → E x / 4 ≤ E y / 4) {C : Nat → Nat} (hC : ∀ y, E x / 4 < C y / 4)
    (hF : ∀ y, F (upd (mask D E) x (E x)) y = min (F (mask D E) y) (C y)) :
    Fnd F (fun y => decide (y = x) || D y) (fun y => min (E y) (C y)) := by
  have keep : ∀ y, (decide (y = x) || D y) = true → min (E y) (C y) = E y := by
    intro y hy
    have hc := hC y
    simp only [Bool.or_eq_true, decide_eq_true_eq] at hy
    rcases hy with rfl | hy
    · omega
    · have := h.ord y x hy hx
      omega
  have hm : mask (fun y => decide (y = x) || D y) (fun y => min (E y) (C y)) = upd (mask D E) x (E x) := by
    funext y
    unfold mask upd
    by_cases hy : y = x
    · subst hy
      have := hC y
      simp
      omega
    · simp only [hy, decide_false, Bool.false_or, if_false]
      split
      · rename_i hd
        exact keep y (by simp [hd])
      · rfl
  refine ⟨fun y => ?_, fun y hy => ?_, fun y z hy hz => ?_⟩
  · rw [hm, hF y, ← h.eq y]
  · rw [keep y hy]
    simp only [Bool.or_eq_true, decide_eq_true_eq] at hy
    rcases hy with rfl | hy
    · exact hfin
    · exact h.fin y hy
  · rw [keep y hy]
    simp only [Bool.or_eq_false_iff, decide_eq_false_iff_not] at hz
    have hc := hC z
    have h1 : E y / 4 ≤ E x / 4 := by
      simp only [Bool.or_eq_true, decide_eq_true_eq] at hy
      rcases hy with rfl | hy
      · exact Nat.le_refl _
      · exact h.ord y x hy hx
    have := hmin z hz.2
    omega
/-! ### A board that falls -/
structure Bo where
  n : Nat
  can : Nat → Nat → Bool
  hit : Nat → Nat → Nat → Bool
  near : Nat → Nat → Option Nat
  d : Nat → Nat
structure Bo.Ok (B : Bo) : Prop where
  sym : ∀ i s q, i < B.n → s < 4 → B.near i s = some q → q < B.n ∧ B.near q (opp s) = some i
  d1 : ∀ i, 1 ≤ B.d i ∧ B.d i ≤ 9
/-- The key of the hit that piece q gives on its side 'to', if it falls with key v: it comes from side s. -/
def gK (B : Bo) (q to s v : Nat) : Nat := if v < big ∧ B.hit q (v % 4) to = true then min big (4 * (v / 4 + B.d q) + s) else big
theorem gK_le (B : Bo) (q to s v : Nat) : gK B q to s v ≤ big := by unfold gK; split <;> omega
theorem gK_big (B : Bo) (q to s : Nat) : gK B q to s big = big := if_neg (fun h => Nat.lt_irrefl _ h.1)
theorem gK_more {B : Bo} (ok : B.Ok) (q to s v : Nat) (hv : v < big) : v / 4 < gK B q to s v / 4 := by
  have := ok.d1 q
  have hb : big / 4 = 274877906944 := rfl
  have hb2 : big = 1099511627776 := rfl
  unfold gK
  split
  · omega
  · omega
theorem gK_agree {B : Bo} (ok : B.Ok) (q to s : Nat) {v a b : Nat} (h : min a (4 * v) = min b (4 * v)) (ha : a ≤ big) (hb : b ≤ big) : min (gK B q to s a) (4 * (v + 1)) = min (gK B q to s b) (4 * (v + 1)) := by
  have := ok.d1 q
  by_cases h1 : a < 4 * v
  · have : a = b := by omega
    rw [this]
  · have h2 : ¬ b < 4 * v := by omega
    unfold gK
    split <;> split <;> omega
def hitK (B : Bo) (P : Nat → Nat → Nat) (E : Nat → Nat) (i s : Nat) : Nat :=
  if B.can i s = true then min (P i s) (match B.near i s with | none => big | some q => gK B q (opp s) s (E q)) else big
def fallF (B : Bo) (P : Nat → Nat → Nat) (E : Nat → Nat) (i : Nat) : Nat := if i < B.n then best4 (hitK B P E i) else big
theorem hitK_le {B : Bo} {P : Nat → Nat → Nat} (hP : ∀ i s, P i s ≤ big) (E : Nat → Nat) (i s : Nat) : hitK B P E i s ≤ big := by
  unfold hitK
  have := hP i s
  split <;> omega
theorem fall_tk {B : Bo} (ok : B.Ok) {P : Nat → Nat → Nat} (hP : ∀ i s, P i s ≤ big) : Tk4 (fallF B P) := by
  refine ⟨fun E y => ?_, fun v E E' hE hE' h y => ?_⟩
  · unfold fallF
    split
    · exact Nat.le_trans (best4_le (k := 0) (by omega)) (hitK_le hP E y 0)
    · exact Nat.le_refl _
  · unfold fallF
    split
    · refine best4_min fun s hs => ?_
      unfold hitK
      split
      · cases B.near y s with
        | none => rfl
        | some q =>
          have := gK_agree ok q (opp s) s (h q) (hE q) (hE' q)
          dsimp only
          omega
      · rfl
    · rfl
/-- What the fall of piece x leads to. -/
def leadK (B : Bo) (x v : Nat) (y : Nat) : Nat := if y < B.n then best4 (fun s => if B.can y s = true ∧ B.near y s = some x then gK B x (opp s) s v else big) else big
theorem best4_both (f g : Nat → Nat) : best4 (fun k => min (f k) (g k)) = min (best4 f) (best4 g) :=
  Nat.le_antisymm (Nat.le_min.2 ⟨best4_mono fun k _ => Nat.min_le_left _ _, best4_mono fun k _ => Nat.min_le_right _ _⟩)
    (le_best4 fun k hk => Nat.le_min.2 ⟨Nat.le_trans (Nat.min_le_left _ _) (best4_le hk), Nat.le_trans (Nat.min_le_right _ _) (best4_le hk)⟩)
theorem fall_more {B : Bo} {P : Nat → Nat → Nat} (hP : ∀ i s, P i s ≤ big) {M : Nat → Nat} {x v : Nat} (hx : M x = big) (y : Nat) : fallF B P (upd M x v) y = min (fallF B P M y) (leadK B x v y) := by
  unfold fallF leadK
  split
  · rw [← best4_both]
    congr 1
    funext s
    unfold hitK
    have hp := hP y s
    by_cases hc : B.can y s = true
    · rw [if_pos hc, if_pos hc]
      cases hn : B.near y s with
      | none =>
        dsimp only
        rw [if_neg (by simp)]
        omega
      | some q =>
        dsimp only
        by_cases hq : q = x
        · subst hq
          rw [upd_at, hx, gK_big, if_pos ⟨hc, rfl⟩]
          have := gK_le B q (opp s) s v
          omega
        · rw [upd_ne _ _ hq, if_neg (by simp [hq])]
          have := gK_le B q (opp s) s (M q)
          omega
    · rw [if_neg hc, if_neg hc, if_neg (by simp [hc])]
      omega
  · rw [Nat.min_self]
theorem lead_more {B : Bo} (ok : B.Ok) {x v : Nat} (hv : v < big) (y : Nat) : v / 4 < leadK B x v y / 4 := by
  have hb : v / 4 < big / 4 := by have hb2 : big = 1099511627776 := rfl; omega
  unfold leadK
  split
  · obtain ⟨k, hk, e⟩ := best4_ex (fun s => if B.can y s = true ∧ B.near y s = some x then gK B x (opp s) s v else big)
    rw [e]
    split
    · exact gK_more ok _ _ _ _ hv
    · exact hb
  · exact hb
theorem Fnd.fall {B : Bo} (ok : B.Ok) {P : Nat → Nat → Nat} (hP : ∀ i s, P i s ≤ big) {D : Nat → Bool} {E : Nat → Nat} (h : Fnd (fallF B P) D E) {x : Nat} (hx : D x = false) (hfin : E x < big) (hmin : ∀ y, D y = false → E x / 4 ≤ E y / 4) :
    Fnd (fallF B P) (fun y => decide (y = x) || D y) (fun y => min (E y) (leadK B x (E x) y)) :=
  h.step hx hfin hmin (lead_more ok hfin) (fall_more hP (by unfold mask; rw [hx]; simp))
theorem fnd_start {B : Bo} {P : Nat → Nat → Nat} {E : Nat → Nat} (h : ∀ y, E y = fallF B P (fun _ => big) y) : Fnd (fallF B P) (fun _ => false) E :=
  ⟨fun y => (h y).trans rfl, fun x hx => absurd hx (by simp), fun x y hx => absurd hx (by simp)⟩
/-- The falls of a board. -/
def Fal (B : Bo) (P : Nat → Nat → Nat) : Nat → Nat := fixp (fallF B P)
/-- One push, at tick 0. -/
def one1 (p sd : Nat) (i s : Nat) : Nat := if i = p ∧ s = sd then sd else big
theorem one1_le {p sd : Nat} (hs : sd < 4) (i s : Nat) : one1 p sd i s ≤ big := by
  have hb2 : big = 1099511627776 := rfl
  unfold one1; split <;> omega
/-- How many fall. -/
def cntF (E : Nat → Nat) : Nat → Nat
  | 0 => 0
  | k + 1 => cntF E k + if E k < big then 1 else 0
theorem cntF_le (E : Nat → Nat) : ∀ k, cntF E k ≤ k
  | 0 => Nat.le_refl _
  | k + 1 => by have := cntF_le E k; unfold cntF; split <;> omega
theorem cntF_congr {E E' : Nat → Nat} : ∀ k, (∀ y, y < k → E y = E' y) → cntF E k = cntF E' k
  | 0, _ => rfl
  | k + 1, h => by unfold cntF; rw [cntF_congr k (fun y hy => h y (by omega)), h k (by omega)]
def cntOf (B : Bo) (p sd : Nat) : Nat := cntF (Fal B (one1 p sd)) B.n
end Go.Proofs.Ytmjlnhhgpdcobaa
