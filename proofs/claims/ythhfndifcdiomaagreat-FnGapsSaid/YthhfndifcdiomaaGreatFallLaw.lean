/-
  How a board falls, as a system of least keys (four times the tick, and the side): it has one solution, and whatever finds one, finds it.
  Plain law of the reference's falls: the piece that is picked, and what it tells its neighbours.
  Plain law of the program's falls: what waits, tick by tick; the first hit of a sorted row that finds its piece standing makes it fall.
  Conditions: none; plain law.
-/
import Derived.Test.YthhfndifcdiomaaGreatTimeLaw
namespace Go.Proofs.YthhfndifcdiomaaGreat
set_option linter.unusedSimpArgs false
set_option linter.unusedVariables false

/-- A system whose keys hang on keys of earlier ticks alone. -/
structure Tk4 (F : (Nat → Nat) → Nat → Nat) : Prop where
  le : ∀ E y, F E y ≤ big
  causal : ∀ v E E', (∀ y, E y ≤ big) → (∀ y, E' y ≤ big) → agree (4 * v) E E' → agree (4 * (v + 1)) (F E) (F E')
theorem Tk4.uniq {F : (Nat → Nat) → Nat → Nat} (h : Tk4 F) {E E' : Nat → Nat} (e : ∀ y, E y = F E y) (e' : ∀ y, E' y = F E' y) : ∀ y, E y = E' y := by
  have hE : ∀ y, E y ≤ big := fun y => by rw [e y]; exact h.le _ _
  have hE' : ∀ y, E' y ≤ big := fun y => by rw [e' y]; exact h.le _ _
  have key : ∀ v, agree (4 * v) E E' := by
    intro v
    induction v with
    | zero => intro y; simp
    | succ v ih =>
      intro y
      have := h.causal v E E' hE hE' ih y
      rw [← e y, ← e' y] at this
      exact this
  intro y
  have := key (E y + E' y) y
  omega
theorem Tk4.iter_le {F : (Nat → Nat) → Nat → Nat} (h : Tk4 F) : ∀ k y, iterF F k y ≤ big
  | 0, _ => Nat.le_refl _
  | k + 1, y => h.le _ _
theorem Tk4.fix {F : (Nat → Nat) → Nat → Nat} (h : Tk4 F) : ∀ y, fixp F y = F (fixp F) y := by
  have key : ∀ v, agree (4 * v) (iterF F v) (iterF F (v + 1)) := by
    intro v
    induction v with
    | zero => intro y; simp
    | succ v ih => exact h.causal v _ _ (h.iter_le _) (h.iter_le _) ih
  intro y
  have h1 := key (big + 1) y
  have h2 := h.iter_le (big + 1) y
  have h3 := h.iter_le (big + 1 + 1) y
  have : iterF F (big + 1) y = iterF F (big + 1 + 1) y := by omega
  exact this
theorem Tk4.fix_le {F : (Nat → Nat) → Nat → Nat} (h : Tk4 F) (y : Nat) : fixp F y ≤ big := h.iter_le _ _
theorem Tk4.is_fix {F : (Nat → Nat) → Nat → Nat} (h : Tk4 F) {E : Nat → Nat} (e : ∀ y, E y = F E y) : ∀ y, E y = fixp F y := h.uniq e h.fix
/-- What has been found, from the least tick on. -/
structure Fnd (F : (Nat → Nat) → Nat → Nat) (D : Nat → Bool) (E : Nat → Nat) : Prop where
  eq : ∀ y, E y = F (mask D E) y
  fin : ∀ x, D x = true → E x < big
  ord : ∀ x y, D x = true → D y = false → E x / 4 ≤ E y / 4
theorem Fnd.done {F : (Nat → Nat) → Nat → Nat} {D : Nat → Bool} {E : Nat → Nat} (h : Fnd F D E) (hT : Tk4 F) (hn : ∀ y, D y = false → ¬ E y < big) : ∀ y, E y = fixp F y := by
  refine hT.is_fix fun y => ?_
  have : mask D E = E := by
    funext z
    unfold mask
    split
    · rfl
    · rename_i hz
      have h1 := hn z (by simpa using hz)
      have h2 : E z ≤ big := by rw [h.eq z]; exact hT.le _ _
      omega
  rw [← this, ← h.eq y]
  rw [this]
theorem Fnd.step {F : (Nat → Nat) → Nat → Nat} {D : Nat → Bool} {E : Nat → Nat} (h : Fnd F D E) {x : Nat} (hx : D x = false) (hfin : E x < big) (hmin : ∀ y, D y = false → E x / 4 ≤ E y / 4) {C : Nat → Nat} (hC : ∀ y, E x / 4 < C y / 4)
    (hF : ∀ y, F (upd (mask D E) x (E x)) y = min (F (mask D E) y) (C y)) :
    Fnd F (fun y => decide (y = x) || D y) (fun y => min (E y) (C y)) := by
  have keep : ∀ y, (decide (y = x) || D y) = true → min (E y) (C y) = E y := by
    intro y hy
    have hc := hC y
    simp only [Bool.or_eq_true, decide_eq_true_eq] at hy
    rcases hy with rfl | hy
    · omega
    · have := h.ord y x hy hx
      omega
  have hm : mask (fun y => decide (y = x) || D y) (fun y => min (E y) (C y)) = upd (mask D E) x (E x) := by
    funext y
    unfold mask upd
    by_cases hy : y = x
    · subst hy
      have := hC y
      simp
      omega
    · simp only [hy, decide_false, Bool.false_or, if_false]
      split
      · rename_i hd
        exact keep y (by simp [hd])
      · rfl
  refine ⟨fun y => ?_, fun y hy => ?_, fun y z hy hz => ?_⟩
  · rw [hm, hF y, ← h.eq y]
  · rw [keep y hy]
    simp only [Bool.or_eq_true, decide_eq_true_eq] at hy
    rcases hy with rfl | hy
    · exact hfin
    · exact h.fin y hy
  · rw [keep y hy]
    simp only [Bool.or_eq_false_iff, decide_eq_false_iff_not] at hz
    have hc := hC z
    have h1 : E y / 4 ≤ E x / 4 := by
      simp only [Bool.or_eq_true, decide_eq_true_eq] at hy
      rcases hy with rfl | hy
      · exact Nat.le_refl _
      · exact h.ord y x hy hx
    have := hmin z hz.2
    omega
/-! ### A board that falls -/
structure Bo where
  n : Nat
  can : Nat → Nat → Bool
  hit : Nat → Nat → Nat → Bool
  near : Nat → Nat → Option Nat
  d : Nat → Nat
structure Bo.Ok (B : Bo) : Prop where
  sym : ∀ i s q, i < B.n → s < 4 → B.near i s = some q → q < B.n ∧ B.near q (opp s) = some i
  d1 : ∀ i, 1 ≤ B.d i ∧ B.d i ≤ 9
/-- The key of the hit that piece q gives on its side 'to', if it falls with key v: it comes from side s. -/
def gK (B : Bo) (q to s v : Nat) : Nat := if v < big ∧ B.hit q (v % 4) to = true then min big (4 * (v / 4 + B.d q) + s) else big
theorem gK_le (B : Bo) (q to s v : Nat) : gK B q to s v ≤ big := by unfold gK; split <;> omega
theorem gK_big (B : Bo) (q to s : Nat) : gK B q to s big = big := if_neg (fun h => Nat.lt_irrefl _ h.1)
theorem gK_more {B : Bo} (ok : B.Ok) (q to s v : Nat) (hv : v < big) : v / 4 < gK B q to s v / 4 := by
  have := ok.d1 q
  have hb : big / 4 = 274877906944 := rfl
  have hb2 : big = 1099511627776 := rfl
  unfold gK
  split
  · omega
  · omega
theorem gK_agree {B : Bo} (ok : B.Ok) (q to s : Nat) {v a b : Nat} (h : min a (4 * v) = min b (4 * v)) (ha : a ≤ big) (hb : b ≤ big) : min (gK B q to s a) (4 * (v + 1)) = min (gK B q to s b) (4 * (v + 1)) := by
  have := ok.d1 q
  by_cases h1 : a < 4 * v
  · have : a = b := by omega
    rw [this]
  · have h2 : ¬ b < 4 * v := by omega
    unfold gK
    split <;> split <;> omega
def hitK (B : Bo) (P : Nat → Nat → Nat) (E : Nat → Nat) (i s : Nat) : Nat :=
  if B.can i s = true then min (P i s) (match B.near i s with | none => big | some q => gK B q (opp s) s (E q)) else big
def fallF (B : Bo) (P : Nat → Nat → Nat) (E : Nat → Nat) (i : Nat) : Nat := if i < B.n then best4 (hitK B P E i) else big
theorem hitK_le {B : Bo} {P : Nat → Nat → Nat} (hP : ∀ i s, P i s ≤ big) (E : Nat → Nat) (i s : Nat) : hitK B P E i s ≤ big := by
  unfold hitK
  have := hP i s
  split <;> omega
theorem fall_tk {B : Bo} (ok : B.Ok) {P : Nat → Nat → Nat} (hP : ∀ i s, P i s ≤ big) : Tk4 (fallF B P) := by
  refine ⟨fun E y => ?_, fun v E E' hE hE' h y => ?_⟩
  · unfold fallF
    split
    · exact Nat.le_trans (best4_le (k := 0) (by omega)) (hitK_le hP E y 0)
    · exact Nat.le_refl _
  · unfold fallF
    split
    · refine best4_min fun s hs => ?_
      unfold hitK
      split
      · cases B.near y s with
        | none => rfl
        | some q =>
          have := gK_agree ok q (opp s) s (h q) (hE q) (hE' q)
          dsimp only
          omega
      · rfl
    · rfl
/-- What the fall of piece x leads to. -/
def leadK (B : Bo) (x v : Nat) (y : Nat) : Nat := if y < B.n then best4 (fun s => if B.can y s = true ∧ B.near y s = some x then gK B x (opp s) s v else big) else big
theorem best4_both (f g : Nat → Nat) : best4 (fun k => min (f k) (g k)) = min (best4 f) (best4 g) :=
  Nat.le_antisymm (Nat.le_min.2 ⟨best4_mono fun k _ => Nat.min_le_left _ _, best4_mono fun k _ => Nat.min_le_right _ _⟩)
    (le_best4 fun k hk => Nat.le_min.2 ⟨Nat.le_trans (Nat.min_le_left _ _) (best4_le hk), Nat.le_trans (Nat.min_le_right _ _) (best4_le hk)⟩)
theorem fall_more {B : Bo} {P : Nat → Nat → Nat} (hP : ∀ i s, P i s ≤ big) {M : Nat → Nat} {x v : Nat} (hx : M x = big) (y : Nat) : fallF B P (upd M x v) y = min (fallF B P M y) (leadK B x v y) := by
  unfold fallF leadK
  split
  · rw [← best4_both]
    congr 1
    funext s
    unfold hitK
    have hp := hP y s
    by_cases hc : B.can y s = true
    · rw [if_pos hc, if_pos hc]
      cases hn : B.near y s with
      | none =>
        dsimp only
        rw [if_neg (by simp)]
        omega
      | some q =>
        dsimp only
        by_cases hq : q = x
        · subst hq
          rw [upd_at, hx, gK_big, if_pos ⟨hc, rfl⟩]
          have := gK_le B q (opp s) s v
          omega
        · rw [upd_ne _ _ hq, if_neg (by simp [hq])]
          have := gK_le B q (opp s) s (M q)
          omega
    · rw [if_neg hc, if_neg hc, if_neg (by simp [hc])]
      omega
  · rw [Nat.min_self]
theorem lead_more {B : Bo} (ok : B.Ok) {x v : Nat} (hv : v < big) (y : Nat) : v / 4 < leadK B x v y / 4 := by
  have hb : v / 4 < big / 4 := by have hb2 : big = 1099511627776 := rfl; omega
  unfold leadK
  split
  · obtain ⟨k, hk, e⟩ := best4_ex (fun s => if B.can y s = true ∧ B.near y s = some x then gK B x (opp s) s v else big)
    rw [e]
    split
    · exact gK_more ok _ _ _ _ hv
    · exact hb
  · exact hb
theorem Fnd.fall {B : Bo} (ok : B.Ok) {P : Nat → Nat → Nat} (hP : ∀ i s, P i s ≤ big) {D : Nat → Bool} {E : Nat → Nat} (h : Fnd (fallF B P) D E) {x : Nat} (hx : D x = false) (hfin : E x < big) (hmin : ∀ y, D y = false → E x / 4 ≤ E y / 4) :
    Fnd (fallF B P) (fun y => decide (y = x) || D y) (fun y => min (E y) (leadK B x (E x) y)) :=
  h.step hx hfin hmin (lead_more ok hfin) (fall_more hP (by unfold mask; rw [hx]; simp))
theorem fnd_start {B : Bo} {P : Nat → Nat → Nat} {E : Nat → Nat} (h : ∀ y, E y = fallF B P (fun _ => big) y) : Fnd (fallF B P) (fun _ => false) E :=
  ⟨fun y => (h y).trans rfl, fun x hx => absurd hx (by simp), fun x y hx => absurd hx (by simp)⟩
/-- The falls of a board. -/
def Fal (B : Bo) (P : Nat → Nat → Nat) : Nat → Nat := fixp (fallF B P)
/-- One push, at tick 0. -/
def one1 (p sd : Nat) (i s : Nat) : Nat := if i = p ∧ s = sd then sd else big
theorem one1_le {p sd : Nat} (hs : sd < 4) (i s : Nat) : one1 p sd i s ≤ big := by
  have hb2 : big = 1099511627776 := rfl
  unfold one1; split <;> omega
/-- How many fall. -/
def cntF (E : Nat → Nat) : Nat → Nat
  | 0 => 0
  | k + 1 => cntF E k + if E k < big then 1 else 0
theorem cntF_le (E : Nat → Nat) : ∀ k, cntF E k ≤ k
  | 0 => Nat.le_refl _
  | k + 1 => by have := cntF_le E k; unfold cntF; split <;> omega
theorem cntF_congr {E E' : Nat → Nat} : ∀ k, (∀ y, y < k → E y = E' y) → cntF E k = cntF E' k
  | 0, _ => rfl
  | k + 1, h => by unfold cntF; rw [cntF_congr k (fun y hy => h y (by omega)), h k (by omega)]
def cntOf (B : Bo) (p sd : Nat) : Nat := cntF (Fal B (one1 p sd)) B.n
/-- The undone piece with the least tick, the first one. -/
def pickR (D : Nat → Bool) (E : Nat → Nat) : Nat → Option Nat
  | 0 => none
  | k + 1 => match pickR D E k with
    | none => if D k = false ∧ E k < big then some k else none
    | some a => if D k = false ∧ E k < big ∧ E k / 4 < E a / 4 then some k else some a
theorem pickR_none {D : Nat → Bool} {E : Nat → Nat} : ∀ {k : Nat}, pickR D E k = none → ∀ y, y < k → D y = false → ¬ E y < big
  | 0, _, y, hy, _ => by omega
  | k + 1, h, y, hy, hd => by
    unfold pickR at h
    cases e : pickR D E k with
    | none =>
      rw [e] at h
      dsimp only at h
      split at h
      · cases h
      · rename_i hc
        by_cases e2 : y = k
        · subst e2; exact fun hb => hc ⟨hd, hb⟩
        · exact pickR_none e y (by omega) hd
    | some a =>
      rw [e] at h
      dsimp only at h
      split at h <;> cases h
theorem pickR_some {D : Nat → Bool} {E : Nat → Nat} : ∀ {k a : Nat}, pickR D E k = some a → a < k ∧ D a = false ∧ E a < big ∧ ∀ y, y < k → D y = false → E a / 4 ≤ E y / 4
  | 0, a, h => by cases h
  | k + 1, a, h => by
    unfold pickR at h
    have hb : big / 4 = 274877906944 := rfl
    have hb2 : big = 1099511627776 := rfl
    cases e : pickR D E k with
    | none =>
      rw [e] at h
      dsimp only at h
      have hn := pickR_none e
      split at h
      · rename_i hc
        injection h with h
        subst h
        refine ⟨by omega, hc.1, hc.2, fun y hy hd => ?_⟩
        by_cases e2 : y = k
        · subst e2; exact Nat.le_refl _
        · have := hn y (by omega) hd
          omega
      · cases h
    | some b =>
      rw [e] at h
      dsimp only at h
      obtain ⟨h1, h2, h3, h4⟩ := pickR_some e
      split at h
      · rename_i hc
        injection h with h
        subst h
        refine ⟨by omega, hc.1, hc.2.1, fun y hy hd => ?_⟩
        by_cases e2 : y = k
        · subst e2; exact Nat.le_refl _
        · have := h4 y (by omega) hd
          omega
      · rename_i hc
        injection h with h
        subst h
        refine ⟨by omega, h2, h3, fun y hy hd => ?_⟩
        by_cases e2 : y = k
        · subst e2
          by_cases h5 : E y < big
          · have : ¬ E y / 4 < E b / 4 := fun h6 => hc ⟨hd, h5, h6⟩
            omega
          · omega
        · exact h4 y (by omega) hd
/-- What piece x that falls with key v tells its neighbour on side s. -/
def tellR (B : Bo) (D : Nat → Bool) (x v : Nat) (E : Nat → Nat) (s : Nat) : Nat → Nat := match B.near x s with
  | some k => if B.hit x (v % 4) s = true ∧ D k = false ∧ B.can k (opp s) = true then upd E k (min (E k) (4 * (v / 4 + B.d x) + opp s)) else E
  | none => E
def tellsR (B : Bo) (D : Nat → Bool) (x v : Nat) (E : Nat → Nat) : Nat → Nat → Nat
  | 0 => E
  | s + 1 => tellR B D x v (tellsR B D x v E s) s
def leadTo (B : Bo) (x v y : Nat) : Nat → Nat
  | 0 => big
  | s + 1 => min (leadTo B x v y s) (if B.near x s = some y ∧ B.can y (opp s) = true then gK B x s (opp s) v else big)
theorem leadTo_le (B : Bo) (x v y : Nat) : ∀ s, leadTo B x v y s ≤ big
  | 0 => Nat.le_refl _
  | s + 1 => by have := leadTo_le B x v y s; unfold leadTo; omega
theorem tells_at {B : Bo} {D : Nat → Bool} {x v : Nat} {E : Nat → Nat} (hv : v < big) (hE : ∀ y, E y ≤ big) (y : Nat) : ∀ s, tellsR B D x v E s y = if D y = true then E y else min (E y) (leadTo B x v y s)
  | 0 => by
    have := hE y
    unfold tellsR leadTo
    split <;> omega
  | s + 1 => by
    have ih := tells_at (B := B) (D := D) (x := x) hv hE y s
    have hl := leadTo_le B x v y s
    have hEy := hE y
    unfold tellsR tellR leadTo
    cases hn : B.near x s with
    | none =>
      dsimp only
      rw [ih, if_neg (show ¬ (none = some y ∧ B.can y (opp s) = true) by simp)]
      split <;> omega
    | some k =>
      dsimp only
      by_cases hk : k = y
      · subst hk
        by_cases hc : B.hit x (v % 4) s = true ∧ D k = false ∧ B.can k (opp s) = true
        · rw [if_pos hc, upd_at, ih, if_neg (by rw [hc.2.1]; simp), if_neg (by rw [hc.2.1]; simp), if_pos ⟨rfl, hc.2.2⟩]
          unfold gK
          rw [if_pos ⟨hv, hc.1⟩]
          omega
        · rw [if_neg hc, ih]
          split
          · rfl
          · rename_i hd
            split
            · rename_i hx
              unfold gK
              rw [if_neg (fun h => hc ⟨h.2, by simpa using hd, hx.2⟩)]
              omega
            · omega
      · rw [if_neg (show ¬ (some k = some y ∧ B.can y (opp s) = true) by simp [hk])]
        have he : (if B.hit x (v % 4) s = true ∧ D k = false ∧ B.can k (opp s) = true then upd (tellsR B D x v E s) k (min (tellsR B D x v E s k) (4 * (v / 4 + B.d x) + opp s)) else tellsR B D x v E s) y = tellsR B D x v E s y := by
          split
          · exact upd_ne _ _ (Ne.symm hk)
          · rfl
        rw [he, ih]
        split <;> omega
theorem near_sym {B : Bo} (ok : B.Ok) {x y s : Nat} (hx : x < B.n) (hs : s < 4) : B.near x s = some y → y < B.n ∧ B.near y (opp s) = some x := ok.sym x s y hx hs
theorem opp_opp2 {s : Nat} (h : s < 4) : opp (opp s) = s := by unfold opp; omega
theorem leadTo_four {B : Bo} (ok : B.Ok) {x v y : Nat} (hx : x < B.n) : leadTo B x v y 4 = leadK B x v y := by
  have hf : ∀ s, s < 4 → (if B.near x s = some y ∧ B.can y (opp s) = true then gK B x s (opp s) v else big) = if y < B.n ∧ B.can y (opp s) = true ∧ B.near y (opp s) = some x then gK B x (opp (opp s)) (opp s) v else big := by
    intro s hs
    rw [opp_opp2 hs]
    by_cases h1 : B.near x s = some y
    · obtain ⟨h2, h3⟩ := ok.sym x s y hx hs h1
      by_cases hc : B.can y (opp s) = true
      · rw [if_pos ⟨h1, hc⟩, if_pos ⟨h2, hc, h3⟩]
      · rw [if_neg (fun h => hc h.2), if_neg (fun h => hc h.2.1)]
    · rw [if_neg (fun h => h1 h.1)]
      rw [if_neg]
      rintro ⟨h2, _, h3⟩
      have := (ok.sym y (opp s) x h2 (by unfold opp; omega) h3).2
      rw [opp_opp2 hs] at this
      exact h1 this
  have e4 : leadTo B x v y 4 = min (min (min (min big (if B.near x 0 = some y ∧ B.can y (opp 0) = true then gK B x 0 (opp 0) v else big)) (if B.near x 1 = some y ∧ B.can y (opp 1) = true then gK B x 1 (opp 1) v else big)) (if B.near x 2 = some y ∧ B.can y (opp 2) = true then gK B x 2 (opp 2) v else big)) (if B.near x 3 = some y ∧ B.can y (opp 3) = true then gK B x 3 (opp 3) v else big) := rfl
  rw [e4, hf 0 (by omega), hf 1 (by omega), hf 2 (by omega), hf 3 (by omega)]
  unfold leadK best4
  by_cases hy : y < B.n
  · simp only [hy, true_and, if_true, show opp 0 = 2 from rfl, show opp 1 = 3 from rfl, show opp 2 = 0 from rfl, show opp 3 = 1 from rfl]
    have g0 := gK_le B x 2 0 v
    have g1 := gK_le B x 3 1 v
    have g2 := gK_le B x 0 2 v
    have g3 := gK_le B x 1 3 v
    generalize (if B.can y 2 = true ∧ B.near y 2 = some x then gK B x 0 2 v else big) = a2
    generalize (if B.can y 3 = true ∧ B.near y 3 = some x then gK B x 1 3 v else big) = a3
    have h0 : (if B.can y 0 = true ∧ B.near y 0 = some x then gK B x 2 0 v else big) ≤ big := by split <;> omega
    generalize (if B.can y 0 = true ∧ B.near y 0 = some x then gK B x 2 0 v else big) = a0 at *
    generalize (if B.can y 1 = true ∧ B.near y 1 = some x then gK B x 3 1 v else big) = a1
    omega
  · simp only [hy, false_and, if_false]
    omega
/-- All four told: the next step of what has been found. -/
theorem tells_all {B : Bo} (ok : B.Ok) {P : Nat → Nat → Nat} {D : Nat → Bool} {E : Nat → Nat} {x : Nat} (h : Fnd (fallF B P) D E) (hE : ∀ y, E y ≤ big) (hx : x < B.n) (hd : D x = false) (hv : E x < big) :
    tellsR B (fun y => decide (y = x) || D y) x (E x) E 4 = fun y => min (E y) (leadK B x (E x) y) := by
  funext y
  rw [tells_at hv hE y 4, leadTo_four ok hx]
  split
  · rename_i hy
    have hm := lead_more ok hv (B := B) (x := x) y
    simp only [Bool.or_eq_true, decide_eq_true_eq] at hy
    rcases hy with rfl | hy
    · omega
    · have := h.ord y x hy hd
      omega
  · rfl
/-- What waits ('Pd t p s': a hit of piece p from side s at tick t), beside what has been found. -/
structure Wait (B : Bo) (P : Nat → Nat → Nat) (D : Nat → Bool) (E : Nat → Nat) (Pd : Nat → Nat → Nat → Prop) : Prop where
  fnd : Fnd (fallF B P) D E
  up : ∀ t p s, Pd t p s → p < B.n ∧ s < 4 ∧ 4 * t + s < big ∧ (D p = false → B.can p s = true → E p ≤ 4 * t + s)
  has : ∀ y, D y = false → E y < big → Pd (E y / 4) y (E y % 4) ∧ B.can y (E y % 4) = true
theorem Wait.fin {B : Bo} {P : Nat → Nat → Nat} {D : Nat → Bool} {E : Nat → Nat} {Pd : Nat → Nat → Nat → Prop} (h : Wait B P D E Pd) (hn : ∀ t p s, ¬ Pd t p s) : ∀ y, D y = false → ¬ E y < big :=
  fun y hy hb => hn _ _ _ (h.has y hy hb).1
/-- A hit that finds its piece fallen, or cannot make it fall, is left away. -/
theorem Wait.skip {B : Bo} {P : Nat → Nat → Nat} {D : Nat → Bool} {E : Nat → Nat} {Pd Pd' : Nat → Nat → Nat → Prop} (h : Wait B P D E Pd) {t p s : Nat} (hps : D p = true ∨ B.can p s = false)
    (h1 : ∀ t' p' s', Pd' t' p' s' → Pd t' p' s') (h2 : ∀ t' p' s', Pd t' p' s' → ¬ (t' = t ∧ p' = p ∧ s' = s) → Pd' t' p' s') : Wait B P D E Pd' := by
  refine ⟨h.fnd, fun t' p' s' hx => h.up t' p' s' (h1 _ _ _ hx), fun y hy hb => ?_⟩
  obtain ⟨h3, h4⟩ := h.has y hy hb
  refine ⟨h2 _ _ _ h3 ?_, h4⟩
  rintro ⟨_, rfl, e3⟩
  rcases hps with h5 | h5
  · rw [hy] at h5; cases h5
  · rw [e3, h5] at h4; cases h4
/-- The first hit in order finds its piece standing: it has the key that was found for it. -/
theorem Wait.first {B : Bo} {P : Nat → Nat → Nat} {D : Nat → Bool} {E : Nat → Nat} {Pd : Nat → Nat → Nat → Prop} (h : Wait B P D E Pd) {t p s : Nat} (hp : Pd t p s) (hd : D p = false) (hc : B.can p s = true)
    (ht : ∀ t' p' s', Pd t' p' s' → t ≤ t') (hs : ∀ s', Pd t p s' → s ≤ s') : E p = 4 * t + s ∧ E p < big ∧ ∀ y, D y = false → E p / 4 ≤ E y / 4 := by
  obtain ⟨h1, h2, h3, h4⟩ := h.up t p s hp
  have h5 := h4 hd hc
  have h6 : E p < big := by omega
  obtain ⟨h7, h8⟩ := h.has p hd h6
  have h9 := ht _ _ _ h7
  have he : E p = 4 * t + s := by
    have : E p / 4 = t := by omega
    rw [this] at h7
    have := hs _ h7
    omega
  refine ⟨he, h6, fun y hy => ?_⟩
  by_cases hb : E y < big
  · have := ht _ _ _ (h.has y hy hb).1
    omega
  · have h10 : big / 4 = 274877906944 := rfl
    have h11 : big = 1099511627776 := rfl
    omega
/-- .. it falls, and its own hits wait. -/
theorem Wait.fall {B : Bo} (ok : B.Ok) {P : Nat → Nat → Nat} (hP : ∀ i s, P i s ≤ big) {D : Nat → Bool} {E : Nat → Nat} {Pd Pd' : Nat → Nat → Nat → Prop} (h : Wait B P D E Pd) {t p s : Nat} (hp : Pd t p s) (hd : D p = false) (hc : B.can p s = true)
    (ht : ∀ t' p' s', Pd t' p' s' → t ≤ t') (hs : ∀ s', Pd t p s' → s ≤ s') (hsm : 4 * (t + 9) + 4 ≤ big)
    (h1 : ∀ t' p' s', Pd' t' p' s' → Pd t' p' s' ∨ (∃ sd, sd < 4 ∧ B.near p sd = some p' ∧ B.hit p s sd = true ∧ t' = t + B.d p ∧ s' = opp sd))
    (h2 : ∀ t' p' s', Pd t' p' s' → ¬ (t' = t ∧ p' = p ∧ s' = s) → Pd' t' p' s')
    (h3 : ∀ sd k, sd < 4 → B.near p sd = some k → B.hit p s sd = true → Pd' (t + B.d p) k (opp sd)) :
    E p = 4 * t + s ∧ Wait B P (fun y => decide (y = p) || D y) (fun y => min (E y) (leadK B p (E p) y)) Pd' := by
  obtain ⟨he, hb, hmin⟩ := h.first hp hd hc ht hs
  obtain ⟨hpn, hs4, _, _⟩ := h.up t p s hp
  have hdd := ok.d1 p
  have hm : E p % 4 = s := by omega
  have hq : E p / 4 = t := by omega
  have hlead : ∀ sd k, sd < 4 → B.near p sd = some k → B.hit p s sd = true → B.can k (opp sd) = true → leadK B p (E p) k ≤ 4 * (t + B.d p) + opp sd := by
    intro sd k hsd hn hh hck
    obtain ⟨hk, hk2⟩ := ok.sym p sd k hpn hsd hn
    unfold leadK
    rw [if_pos hk]
    refine Nat.le_trans (best4_le (k := opp sd) (by unfold opp; omega)) ?_
    rw [if_pos ⟨hck, hk2⟩, opp_opp2 hsd]
    unfold gK
    rw [if_pos ⟨hb, by rw [hm]; exact hh⟩, hq]
    omega
  refine ⟨he, h.fnd.fall ok hP hd hb hmin, fun t' p' s' hx => ?_, fun y hy hyb => ?_⟩
  · rcases h1 _ _ _ hx with h4 | ⟨sd, h4, h5, h6, rfl, rfl⟩
    · obtain ⟨a1, a2, a3, a4⟩ := h.up _ _ _ h4
      refine ⟨a1, a2, a3, fun b1 b2 => ?_⟩
      simp only [Bool.or_eq_false_iff] at b1
      have := a4 b1.2 b2
      omega
    · obtain ⟨hk, hk2⟩ := ok.sym p sd p' hpn h4 h5
      refine ⟨hk, by unfold opp; omega, by unfold opp; omega, fun b1 b2 => ?_⟩
      have := hlead sd p' h4 h5 h6 b2
      omega
  · simp only [Bool.or_eq_false_iff, decide_eq_false_iff_not] at hy
    obtain ⟨hyp, hyd⟩ := hy
    by_cases hle : E y ≤ leadK B p (E p) y
    · rw [Nat.min_eq_left hle] at hyb ⊢
      obtain ⟨a1, a2⟩ := h.has y hyd hyb
      exact ⟨h2 _ _ _ a1 (fun e => hyp e.2.1), a2⟩
    · have hgt : leadK B p (E p) y ≤ E y := by omega
      rw [Nat.min_eq_right hgt] at hyb ⊢
      unfold leadK at hyb ⊢
      by_cases hyn : y < B.n
      · rw [if_pos hyn] at hyb ⊢
        obtain ⟨k, hk, e⟩ := best4_ex (fun s => if B.can y s = true ∧ B.near y s = some p then gK B p (opp s) s (E p) else big)
        rw [e] at hyb ⊢

        by_cases hcn : B.can y k = true ∧ B.near y k = some p
        · rw [if_pos hcn] at hyb ⊢
          unfold gK at hyb ⊢
          by_cases hh : E p < big ∧ B.hit p (E p % 4) (opp k) = true
          · rw [if_pos hh] at hyb ⊢
            rw [hq] at hyb ⊢
            have hval : min big (4 * (t + B.d p) + k) = 4 * (t + B.d p) + k := by omega
            rw [hval]
            have e1 : (4 * (t + B.d p) + k) / 4 = t + B.d p := by omega
            have e2 : (4 * (t + B.d p) + k) % 4 = k := by omega
            rw [e1, e2]
            refine ⟨?_, hcn.1⟩
            have := h3 (opp k) y (by unfold opp; omega) (ok.sym y k p hyn hk hcn.2).2 (by rw [← hm]; exact hh.2)
            rw [opp_opp2 hk] at this
            exact this
          · rw [if_neg hh] at hyb; omega
        · rw [if_neg hcn] at hyb; omega
      · rw [if_neg hyn] at hyb; omega
end Go.Proofs.YthhfndifcdiomaaGreat
