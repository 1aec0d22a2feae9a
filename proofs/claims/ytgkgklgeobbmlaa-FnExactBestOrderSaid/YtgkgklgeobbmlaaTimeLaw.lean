/-
  Least ticks: systems of least ticks have one solution each; whatever finds one, finds it.
  The earliest and the latest hits of a board's pieces, as systems of least ticks.
  Conditions: none; plain law.
-/
import Derived.Test.YtgkgklgeobbmlaaBase
namespace Go.Proofs.Ytgkgklgeobbmlaa
set_option linter.unusedSimpArgs false
set_option linter.unusedVariables false

def big : Nat := 1099511627776
def agree (v : Nat) (E E' : Nat → Nat) : Prop := ∀ y, min (E y) v = min (E' y) v
structure Tick (F : (Nat → Nat) → Nat → Nat) : Prop where
  le : ∀ E y, F E y ≤ big
  mono : ∀ E E', (∀ y, E y ≤ E' y) → ∀ y, F E y ≤ F E' y
  causal : ∀ v E E', (∀ y, E y ≤ big) → (∀ y, E' y ≤ big) → agree v E E' → agree (v + 1) (F E) (F E')
theorem Tick.uniq {F : (Nat → Nat) → Nat → Nat} (h : Tick F) {E E' : Nat → Nat} (e : ∀ y, E y = F E y) (e' : ∀ y, E' y = F E' y) : ∀ y, E y = E' y := by
  have hE : ∀ y, E y ≤ big := fun y => by rw [e y]; exact h.le _ _
  have hE' : ∀ y, E' y ≤ big := fun y => by rw [e' y]; exact h.le _ _
  have key : ∀ v, agree v E E' := by
    intro v
    induction v with
    | zero => intro y; simp
    | succ v ih =>
      intro y
      have := h.causal v E E' hE hE' ih y
      rw [← e y, ← e' y] at this
      exact this
  intro y
  have := key (E y + E' y) y
  omega
def iterF (F : (Nat → Nat) → Nat → Nat) : Nat → Nat → Nat
  | 0 => fun _ => big
  | k + 1 => F (iterF F k)
def fixp (F : (Nat → Nat) → Nat → Nat) : Nat → Nat := iterF F (big + 1)
theorem Tick.iter_le {F : (Nat → Nat) → Nat → Nat} (h : Tick F) : ∀ k y, iterF F k y ≤ big
  | 0, _ => Nat.le_refl _
  | k + 1, y => h.le _ _
theorem Tick.fix {F : (Nat → Nat) → Nat → Nat} (h : Tick F) : ∀ y, fixp F y = F (fixp F) y := by
  have key : ∀ v, agree v (iterF F v) (iterF F (v + 1)) := by
    intro v
    induction v with
    | zero => intro y; simp
    | succ v ih => exact h.causal v _ _ (h.iter_le _) (h.iter_le _) ih
  intro y
  have h1 := key (big + 1) y
  have h2 := h.iter_le (big + 1) y
  have h3 := h.iter_le (big + 1 + 1) y
  have : iterF F (big + 1) y = iterF F (big + 1 + 1) y := by omega
  exact this
theorem Tick.fix_le {F : (Nat → Nat) → Nat → Nat} (h : Tick F) (y : Nat) : fixp F y ≤ big := h.iter_le _ _
theorem Tick.is_fix {F : (Nat → Nat) → Nat → Nat} (h : Tick F) {E : Nat → Nat} (e : ∀ y, E y = F E y) : ∀ y, E y = fixp F y := h.uniq e h.fix
theorem fixp_mono {F G : (Nat → Nat) → Nat → Nat} (hG : Tick G) (hle : ∀ E y, F E y ≤ G E y) : ∀ y, fixp F y ≤ fixp G y := by
  have key : ∀ k y, iterF F k y ≤ iterF G k y := by
    intro k
    induction k with
    | zero => intro y; exact Nat.le_refl _
    | succ k ih => intro y; exact Nat.le_trans (hle _ y) (hG.mono _ _ ih y)
  exact key _
theorem fixp_mono' {F G : (Nat → Nat) → Nat → Nat} (hF : Tick F) (hle : ∀ E y, F E y ≤ G E y) : ∀ y, fixp F y ≤ fixp G y := by
  have key : ∀ k y, iterF F k y ≤ iterF G k y := by
    intro k
    induction k with
    | zero => intro y; exact Nat.le_refl _
    | succ k ih => intro y; exact Nat.le_trans (hF.mono _ _ ih y) (hle _ y)
  exact key _

/-! ### Ticks that get better, one at a time -/
def upd (E : Nat → Nat) (x v : Nat) : Nat → Nat := fun y => if y = x then v else E y
theorem upd_at (E : Nat → Nat) (x v : Nat) : upd E x v x = v := by simp [upd]
theorem upd_ne (E : Nat → Nat) {x y : Nat} (v : Nat) (h : y ≠ x) : upd E x v y = E y := by simp [upd, h]
theorem upd_same (E : Nat → Nat) (x : Nat) : upd E x (E x) = E := by funext y; unfold upd; split <;> simp_all
theorem better_step {F : (Nat → Nat) → Nat → Nat} (h : Tick F) {E : Nat → Nat} (hp : ∀ y, F E y ≤ E y) (x : Nat) : ∀ y, F (upd E x (F E x)) y ≤ upd E x (F E x) y := by
  have hle : ∀ y, upd E x (F E x) y ≤ E y := fun y => by
    unfold upd
    split
    · rename_i e; subst e; exact hp y
    · exact Nat.le_refl _
  intro y
  have h1 := h.mono _ _ hle y
  unfold upd at h1 ⊢
  split
  · rename_i e; subst e; exact h1
  · exact Nat.le_trans h1 (hp y)
def sumE (E : Nat → Nat) : Nat → Nat
  | 0 => 0
  | m + 1 => sumE E m + E m
theorem sumE_upd (E : Nat → Nat) (x v : Nat) : ∀ m, sumE (upd E x v) m + (if x < m then E x else 0) = sumE E m + (if x < m then v else 0)
  | 0 => by simp [sumE]
  | m + 1 => by
    have ih := sumE_upd E x v m
    unfold sumE
    by_cases h1 : x < m
    · have h2 : x < m + 1 := by omega
      rw [upd_ne E v (show m ≠ x by omega)]
      simp only [h1, h2, if_true] at ih ⊢
      omega
    · by_cases h3 : x = m
      · subst h3
        rw [upd_at]
        simp only [Nat.lt_irrefl, if_false, Nat.lt_succ_self, if_true] at ih ⊢
        omega
      · have h2 : ¬ x < m + 1 := by omega
        rw [upd_ne E v (show m ≠ x by omega)]
        simp only [h1, h2, if_false] at ih ⊢
        omega
def cntE (E : Nat → Nat) : Nat → Nat
  | 0 => 0
  | m + 1 => cntE E m + (if E m < big then 1 else 0)
theorem cntE_le (E : Nat → Nat) : ∀ m, cntE E m ≤ m
  | 0 => Nat.le_refl _
  | m + 1 => by have := cntE_le E m; unfold cntE; split <;> omega
theorem cntE_upd (E : Nat → Nat) (x v : Nat) : ∀ m, cntE (upd E x v) m + (if x < m ∧ E x < big then 1 else 0) = cntE E m + (if x < m ∧ v < big then 1 else 0)
  | 0 => by simp [cntE]
  | m + 1 => by
    have ih := cntE_upd E x v m
    unfold cntE
    by_cases h1 : x < m
    · have h2 : x < m + 1 := by omega
      rw [upd_ne E v (show m ≠ x by omega)]
      simp only [h1, h2, true_and] at ih ⊢
      omega
    · by_cases h3 : x = m
      · subst h3
        rw [upd_at]
        simp only [Nat.lt_irrefl, false_and, if_false, Nat.lt_succ_self, true_and] at ih ⊢
        omega
      · have h2 : ¬ x < m + 1 := by omega
        rw [upd_ne E v (show m ≠ x by omega)]
        simp only [h1, h2, false_and, if_false] at ih ⊢
        omega
/-- What is found by a system's steps: the bound of what is finite. -/
structure Slow (F : (Nat → Nat) → Nat → Nat) (m : Nat) : Prop where
  out : ∀ E y, m ≤ y → F E y = big
  step : ∀ E y, F E y < big → F E y ≤ 1000 ∨ ∃ x, E x < big ∧ F E y ≤ E x + 9
def bounded (E : Nat → Nat) (m : Nat) : Prop := ∀ y, E y < big → E y ≤ 1000 + 9 * cntE E m
theorem bounded_step {F : (Nat → Nat) → Nat → Nat} {m : Nat} (hs : Slow F m) {E : Nat → Nat} (hp : ∀ y, F E y ≤ E y) (hE : ∀ y, E y ≤ big) (hb : bounded E m) {x : Nat} (hx : x < m) : bounded (upd E x (F E x)) m := by
  intro y hy
  have hc := cntE_upd E x (F E x) m
  simp only [hx, true_and] at hc
  have hmono : cntE E m ≤ cntE (upd E x (F E x)) m := by
    have := hp x
    split at hc <;> split at hc <;> omega
  by_cases h : y = x
  · subst h
    rw [upd_at] at hy ⊢
    rcases hs.step E y hy with h1 | ⟨z, hz, h1⟩
    · omega
    · have h2 := hb z hz
      by_cases h3 : E y < big
      · have := hb y h3
        have := hp y
        omega
      · simp only [h3, hy, if_true, if_false] at hc
        omega
  · rw [upd_ne _ _ h] at hy ⊢
    have := hb y hy
    omega
theorem bounded_start (m : Nat) : bounded (fun _ => big) m := fun y h => absurd h (Nat.lt_irrefl _)

/-! ### Ticks that are found from the least one on -/
def mask (D : Nat → Bool) (E : Nat → Nat) : Nat → Nat := fun y => if D y = true then E y else big
structure Found (F : (Nat → Nat) → Nat → Nat) (D : Nat → Bool) (E : Nat → Nat) : Prop where
  eq : ∀ y, E y = F (mask D E) y
  fin : ∀ x, D x = true → E x < big
  ord : ∀ x y, D x = true → D y = false → E x ≤ E y
theorem Found.done {F : (Nat → Nat) → Nat → Nat} {D : Nat → Bool} {E : Nat → Nat} (h : Found F D E) (hT : Tick F) (hn : ∀ y, D y = false → ¬ E y < big) : ∀ y, E y = fixp F y := by
  refine hT.is_fix fun y => ?_
  have : mask D E = E := by
    funext z
    unfold mask
    split
    · rfl
    · rename_i hz
      have h1 := hn z (by simpa using hz)
      have h2 : E z ≤ big := by rw [h.eq z]; exact hT.le _ _
      omega
  rw [← this, ← h.eq y]
  rw [this]
/-- One more is found: 'C y' is what it leads to at y (big if nothing). -/
theorem Found.step {F : (Nat → Nat) → Nat → Nat} {D : Nat → Bool} {E : Nat → Nat} (h : Found F D E) (hT : Tick F) {x : Nat} (hx : D x = false) (hfin : E x < big) (hmin : ∀ y, D y = false → E x ≤ E y) {C : Nat → Nat} (hC : ∀ y, E x < C y)
    (hF : ∀ y, F (upd (mask D E) x (E x)) y = min (F (mask D E) y) (C y)) :
    Found F (fun y => decide (y = x) || D y) (fun y => min (E y) (C y)) := by
  have keep : ∀ y, (decide (y = x) || D y) = true → min (E y) (C y) = E y := by
    intro y hy
    have hc := hC y
    simp only [Bool.or_eq_true, decide_eq_true_eq] at hy
    rcases hy with rfl | hy
    · omega
    · have := h.ord y x hy hx
      omega
  have hm : mask (fun y => decide (y = x) || D y) (fun y => min (E y) (C y)) = upd (mask D E) x (E x) := by
    funext y
    unfold mask upd
    by_cases hy : y = x
    · subst hy
      have := hC y
      simp
      omega
    · simp only [hy, decide_false, Bool.false_or, if_false]
      split
      · rename_i hd
        exact keep y (by simp [hd])
      · rfl
  refine ⟨fun y => ?_, fun y hy => ?_, fun y z hy hz => ?_⟩
  · rw [hm, hF y, ← h.eq y]
  · rw [keep y hy]
    simp only [Bool.or_eq_true, decide_eq_true_eq] at hy
    rcases hy with rfl | hy
    · exact hfin
    · exact h.fin y hy
  · rw [keep y hy]
    simp only [Bool.or_eq_false_iff, decide_eq_false_iff_not] at hz
    have hc := hC z
    have h1 : E y ≤ E x := by
      simp only [Bool.or_eq_true, decide_eq_true_eq] at hy
      rcases hy with rfl | hy
      · exact Nat.le_refl _
      · exact h.ord y x hy hx
    have := hmin z hz.2
    omega
structure Net where
  n : Nat
  can : Nat → Nat → Bool
  hit : Nat → Nat → Nat → Bool
  near : Nat → Nat → Option Nat
  low : Nat → Nat
  high : Nat → Nat
  push : Nat → Nat → Nat
def opp (s : Nat) : Nat := (s + 2) % 4
structure Net.Ok (N : Net) : Prop where
  sym : ∀ i s q, i < N.n → s < 4 → N.near i s = some q → q < N.n ∧ N.near q (opp s) = some i
  low1 : ∀ i, 1 ≤ N.low i ∧ N.low i ≤ 9
  high1 : ∀ i, 1 ≤ N.high i ∧ N.high i ≤ 9
  push1 : ∀ i s, N.push i s ≤ 1000 ∨ N.push i s = big
def best4 (f : Nat → Nat) : Nat := min (min (min (f 0) (f 1)) (f 2)) (f 3)
theorem best4_le {f : Nat → Nat} {k : Nat} (h : k < 4) : best4 f ≤ f k := by
  unfold best4
  have : k = 0 ∨ k = 1 ∨ k = 2 ∨ k = 3 := by omega
  rcases this with rfl | rfl | rfl | rfl <;> omega
theorem best4_ex (f : Nat → Nat) : ∃ k, k < 4 ∧ best4 f = f k := by
  have h : best4 f = f 0 ∨ best4 f = f 1 ∨ best4 f = f 2 ∨ best4 f = f 3 := by unfold best4; omega
  rcases h with h | h | h | h
  · exact ⟨0, by omega, h⟩
  · exact ⟨1, by omega, h⟩
  · exact ⟨2, by omega, h⟩
  · exact ⟨3, by omega, h⟩
theorem le_best4 {f : Nat → Nat} {v : Nat} (h : ∀ k, k < 4 → v ≤ f k) : v ≤ best4 f := by
  obtain ⟨k, hk, e⟩ := best4_ex f
  rw [e]; exact h k hk
theorem best4_mono {f g : Nat → Nat} (h : ∀ k, k < 4 → f k ≤ g k) : best4 f ≤ best4 g := le_best4 fun k hk => Nat.le_trans (best4_le hk) (h k hk)
theorem min_min_min (a b v : Nat) : min (min a b) v = min (min a v) (min b v) := by omega
theorem best4_min {f g : Nat → Nat} {v : Nat} (h : ∀ k, k < 4 → min (f k) v = min (g k) v) : min (best4 f) v = min (best4 g) v := by
  have e : ∀ f : Nat → Nat, min (best4 f) v = min (min (min (min (f 0) v) (min (f 1) v)) (min (f 2) v)) (min (f 3) v) := fun f => by
    unfold best4
    rw [min_min_min _ (f 3), min_min_min _ (f 2), min_min_min (f 0)]
  rw [e f, e g, h 0 (by omega), h 1 (by omega), h 2 (by omega), h 3 (by omega)]
/-- A later tick that one tick leads to. -/
structure Lead (g : Nat → Nat) : Prop where
  le : ∀ t, g t ≤ big
  mono : ∀ t t', t ≤ t' → g t ≤ g t'
  later : ∀ t, min big (t + 1) ≤ g t
  slow : ∀ t, g t < big → t < big ∧ g t ≤ t + 9
theorem Lead.top {g : Nat → Nat} (h : Lead g) {t : Nat} (ht : big ≤ t) : g t = big := by
  have := h.later t
  have := h.le t
  omega
theorem Lead.causal {g : Nat → Nat} (h : Lead g) {t t' v : Nat} (ht : t ≤ big) (ht' : t' ≤ big) (e : min t v = min t' v) : min (g t) (v + 1) = min (g t') (v + 1) := by
  by_cases h1 : t < v
  · obtain rfl : t = t' := by omega
    rfl
  · have h2 : v ≤ t' := by omega
    have h3 : v ≤ t := by omega
    have l1 := h.later t
    have l2 := h.later t'
    have b1 := h.le t
    have b2 := h.le t'
    by_cases h4 : v + 1 ≤ big
    · omega
    · obtain rfl : t = t' := by omega
      rfl
def bef (L : Nat → Nat) (q t side : Nat) : Bool := (List.range 4).any fun k => decide (L (4 * q + k) < t ∨ L (4 * q + k) = t ∧ k < side)
theorem bef_iff {L : Nat → Nat} {q t side : Nat} : bef L q t side = true ↔ ∃ k, k < 4 ∧ (L (4 * q + k) < t ∨ L (4 * q + k) = t ∧ k < side) := by
  unfold bef
  rw [List.any_eq_true]
  constructor
  · rintro ⟨k, hk, h⟩; exact ⟨k, List.mem_range.1 hk, of_decide_eq_true h⟩
  · rintro ⟨k, hk, h⟩; exact ⟨k, List.mem_range.2 hk, decide_eq_true h⟩
theorem bef_mono {L L' : Nat → Nat} {q t t' side : Nat} (ht : t ≤ t') (hL : ∀ y, L' y ≤ L y) (h : bef L q t side = true) : bef L' q t' side = true := by
  obtain ⟨k, hk, h⟩ := bef_iff.1 h
  refine bef_iff.2 ⟨k, hk, ?_⟩
  have := hL (4 * q + k)
  omega
/-- From which sides a piece may fall. -/
def mayT (E L : Nat → Nat) (i side : Nat) : Bool := decide (E (4 * i + side) < big) && !bef L i (E (4 * i + side)) side
def gE (N : Net) (L : Nat → Nat) (q fr to t : Nat) : Nat := if (decide (t < big) && !bef L q t fr) = true ∧ N.hit q fr to = true then min big (t + N.low q) else big
theorem gE_lead {N : Net} (ok : N.Ok) (L : Nat → Nat) (q fr to : Nat) : Lead (gE N L q fr to) := by
  have := ok.low1 q
  refine ⟨fun t => ?_, fun t t' h => ?_, fun t => ?_, fun t h => ?_⟩
  · unfold gE; split <;> omega
  · unfold gE
    split
    · split
      · omega
      · omega
    · rename_i h1
      split
      · rename_i h2
        refine absurd ⟨?_, h2.2⟩ h1
        have h3 := h2.1
        simp only [Bool.and_eq_true, decide_eq_true_eq, Bool.not_eq_true'] at h3 ⊢
        refine ⟨by omega, ?_⟩
        cases hb : bef L q t fr with
        | false => rfl
        | true =>
          have := bef_mono h (fun y => Nat.le_refl _) hb
          rw [h3.2] at this
          cases this
      · omega
  · unfold gE; split <;> omega
  · unfold gE at h ⊢
    split at h
    · rename_i h2
      have h3 := h2.1
      simp only [Bool.and_eq_true, decide_eq_true_eq, Bool.not_eq_true'] at h3
      rw [if_pos h2]
      omega
    · omega
def earlyF (N : Net) (L E : Nat → Nat) (y : Nat) : Nat :=
  if y < 4 * N.n ∧ N.can (y / 4) (y % 4) = true then
    min (N.push (y / 4) (y % 4)) (match N.near (y / 4) (y % 4) with
      | none => big
      | some q => best4 fun fr => gE N L q fr (opp (y % 4)) (E (4 * q + fr)))
  else big
def always (N : Net) (S : Nat → Nat → Bool) (q to : Nat) : Bool := (List.range 4).all fun fr => !S q fr || N.hit q fr to
def gL (N : Net) (S : Nat → Nat → Bool) (q to t : Nat) : Nat := if always N S q to = true then min big (t + N.high q) else big
theorem gL_lead {N : Net} (ok : N.Ok) (S : Nat → Nat → Bool) (q to : Nat) : Lead (gL N S q to) := by
  have := ok.high1 q
  refine ⟨fun t => ?_, fun t t' h => ?_, fun t => ?_, fun t h => ?_⟩
  · unfold gL; split <;> omega
  · unfold gL; split <;> omega
  · unfold gL; split <;> omega
  · unfold gL at h ⊢
    split at h
    · rename_i h2
      rw [if_pos h2]
      omega
    · omega
def lateF (N : Net) (S : Nat → Nat → Bool) (E : Nat → Nat) (y : Nat) : Nat :=
  if y < 4 * N.n ∧ N.can (y / 4) (y % 4) = true then
    min (N.push (y / 4) (y % 4)) (match N.near (y / 4) (y % 4) with
      | none => big
      | some q => gL N S q (opp (y % 4)) (best4 fun fr => E (4 * q + fr)))
  else big
theorem push_le {N : Net} (ok : N.Ok) (i s : Nat) : N.push i s ≤ big := by
  have := ok.push1 i s
  have : (1000 : Nat) ≤ big := by decide
  omega
theorem early_tick {N : Net} (ok : N.Ok) (L : Nat → Nat) : Tick (earlyF N L) := by
  refine ⟨fun E y => ?_, fun E E' h y => ?_, fun v E E' hE hE' h y => ?_⟩
  · unfold earlyF
    have := push_le ok (y / 4) (y % 4)
    split <;> omega
  · unfold earlyF
    split
    · cases N.near (y / 4) (y % 4) with
      | none => exact Nat.le_refl _
      | some q =>
        have : best4 (fun fr => gE N L q fr (opp (y % 4)) (E (4 * q + fr))) ≤ best4 (fun fr => gE N L q fr (opp (y % 4)) (E' (4 * q + fr))) := best4_mono fun k _ => (gE_lead ok L q k _).mono _ _ (h _)
        dsimp only
        omega
    · exact Nat.le_refl _
  · unfold earlyF
    split
    · cases N.near (y / 4) (y % 4) with
      | none => rfl
      | some q =>
        have : min (best4 (fun fr => gE N L q fr (opp (y % 4)) (E (4 * q + fr)))) (v + 1) = min (best4 (fun fr => gE N L q fr (opp (y % 4)) (E' (4 * q + fr)))) (v + 1) :=
          best4_min fun k _ => (gE_lead ok L q k _).causal (hE _) (hE' _) (h _)
        dsimp only
        omega
    · rfl
theorem late_tick {N : Net} (ok : N.Ok) (S : Nat → Nat → Bool) : Tick (lateF N S) := by
  refine ⟨fun E y => ?_, fun E E' h y => ?_, fun v E E' hE hE' h y => ?_⟩
  · unfold lateF
    have := push_le ok (y / 4) (y % 4)
    split <;> omega
  · unfold lateF
    split
    · cases N.near (y / 4) (y % 4) with
      | none => exact Nat.le_refl _
      | some q =>
        have := (gL_lead ok S q (opp (y % 4))).mono _ _ (best4_mono (f := fun fr => E (4 * q + fr)) (g := fun fr => E' (4 * q + fr)) fun k _ => h _)
        dsimp only
        omega
    · exact Nat.le_refl _
  · unfold lateF
    split
    · cases N.near (y / 4) (y % 4) with
      | none => rfl
      | some q =>
        have := (gL_lead ok S q (opp (y % 4))).causal (v := v) (t := best4 fun fr => E (4 * q + fr)) (t' := best4 fun fr => E' (4 * q + fr)) (Nat.le_trans (best4_le (k := 0) (by omega)) (hE _)) (Nat.le_trans (best4_le (k := 0) (by omega)) (hE' _)) (best4_min fun k _ => h _)
        dsimp only
        omega
    · rfl
theorem early_slow {N : Net} (ok : N.Ok) (L : Nat → Nat) : Slow (earlyF N L) (4 * N.n) := by
  refine ⟨fun E y hy => by unfold earlyF; rw [if_neg (by omega)], fun E y h => ?_⟩
  unfold earlyF at h ⊢
  split at h
  · rename_i hc
    rw [if_pos hc]
    have hp := ok.push1 (y / 4) (y % 4)
    cases hn : N.near (y / 4) (y % 4) with
    | none => rw [hn] at h; dsimp only at h ⊢; omega
    | some q =>
      rw [hn] at h
      dsimp only at h ⊢
      obtain ⟨k, hk, e⟩ := best4_ex (fun fr => gE N L q fr (opp (y % 4)) (E (4 * q + fr)))
      rw [e] at h ⊢
      by_cases hg : gE N L q k (opp (y % 4)) (E (4 * q + k)) < big
      · have := (gE_lead ok L q k (opp (y % 4))).slow _ hg
        exact .inr ⟨4 * q + k, this.1, by omega⟩
      · omega
  · omega
theorem late_slow {N : Net} (ok : N.Ok) (S : Nat → Nat → Bool) : Slow (lateF N S) (4 * N.n) := by
  refine ⟨fun E y hy => by unfold lateF; rw [if_neg (by omega)], fun E y h => ?_⟩
  unfold lateF at h ⊢
  split at h
  · rename_i hc
    rw [if_pos hc]
    have hp := ok.push1 (y / 4) (y % 4)
    cases hn : N.near (y / 4) (y % 4) with
    | none => rw [hn] at h; dsimp only at h ⊢; omega
    | some q =>
      rw [hn] at h
      dsimp only at h ⊢
      obtain ⟨k, hk, e⟩ := best4_ex (fun fr => E (4 * q + fr))
      rw [e] at h ⊢
      by_cases hg : gL N S q (opp (y % 4)) (E (4 * q + k)) < big
      · have := (gL_lead ok S q (opp (y % 4))).slow _ hg
        exact .inr ⟨4 * q + k, this.1, by omega⟩
      · omega
  · omega
/-- What an earliest hit leads to. -/
def leadE (N : Net) (L : Nat → Nat) (i side t : Nat) (y : Nat) : Nat :=
  if y < 4 * N.n ∧ N.can (y / 4) (y % 4) = true ∧ N.near (y / 4) (y % 4) = some i then gE N L i side (opp (y % 4)) t else big
theorem early_found {N : Net} (ok : N.Ok) (L : Nat → Nat) {i side t : Nat} (hs : side < 4) {M : Nat → Nat} (hM : M (4 * i + side) = big) (y : Nat) :
    earlyF N L (upd M (4 * i + side) t) y = min (earlyF N L M y) (leadE N L i side t y) := by
  have hle := (early_tick ok L).le M y
  unfold leadE
  by_cases hc : y < 4 * N.n ∧ N.can (y / 4) (y % 4) = true
  · by_cases hn : N.near (y / 4) (y % 4) = some i
    · rw [if_pos ⟨hc.1, hc.2, hn⟩]
      unfold earlyF
      rw [if_pos hc, if_pos hc, hn]
      dsimp only
      have hb : best4 (fun fr => gE N L i fr (opp (y % 4)) (upd M (4 * i + side) t (4 * i + fr))) = min (best4 (fun fr => gE N L i fr (opp (y % 4)) (M (4 * i + fr)))) (gE N L i side (opp (y % 4)) t) := by
        have e0 : ∀ fr, fr ≠ side → upd M (4 * i + side) t (4 * i + fr) = M (4 * i + fr) := fun fr h => upd_ne _ _ (by omega)
        have e1 : upd M (4 * i + side) t (4 * i + side) = t := upd_at _ _ _
        have e2 := (gE_lead ok L i side (opp (y % 4))).top (t := M (4 * i + side)) (by omega)
        have e3 := (gE_lead ok L i side (opp (y % 4))).le t
        unfold best4
        dsimp only
        have : side = 0 ∨ side = 1 ∨ side = 2 ∨ side = 3 := by omega
        rcases this with rfl | rfl | rfl | rfl
        · rw [e1, e0 1 (by omega), e0 2 (by omega), e0 3 (by omega)]; omega
        · rw [e1, e0 0 (by omega), e0 2 (by omega), e0 3 (by omega)]; omega
        · rw [e1, e0 1 (by omega), e0 0 (by omega), e0 3 (by omega)]; omega
        · rw [e1, e0 1 (by omega), e0 2 (by omega), e0 0 (by omega)]; omega
      rw [hb]
      omega
    · rw [if_neg (fun h => hn h.2.2)]
      have : earlyF N L (upd M (4 * i + side) t) y = earlyF N L M y := by
        unfold earlyF
        rw [if_pos hc, if_pos hc]
        cases hq : N.near (y / 4) (y % 4) with
        | none => rfl
        | some q =>
          have hne : q ≠ i := fun e => hn (by rw [hq, e])
          dsimp only
          have e0 : ∀ fr, fr < 4 → upd M (4 * i + side) t (4 * q + fr) = M (4 * q + fr) := fun fr h => upd_ne _ _ (by omega)
          unfold best4
          dsimp only
          rw [e0 0 (by omega), e0 1 (by omega), e0 2 (by omega), e0 3 (by omega)]
      rw [this]
      omega
  · rw [if_neg (fun h => hc ⟨h.1, h.2.1⟩)]
    unfold earlyF
    rw [if_neg hc, if_neg hc]
    omega
/-- What a latest hit leads to: the first one of a piece alone. -/
def leadL (N : Net) (S : Nat → Nat → Bool) (seen : Bool) (i t : Nat) (y : Nat) : Nat :=
  if seen = false ∧ y < 4 * N.n ∧ N.can (y / 4) (y % 4) = true ∧ N.near (y / 4) (y % 4) = some i then gL N S i (opp (y % 4)) t else big
theorem late_found {N : Net} (ok : N.Ok) (S : Nat → Nat → Bool) {i side t : Nat} (hs : side < 4) {M : Nat → Nat} (hM : M (4 * i + side) = big) (ht : t ≤ big) {seen : Bool}
    (h0 : seen = false → ∀ k, k < 4 → M (4 * i + k) = big) (h1 : seen = true → ∃ k, k < 4 ∧ M (4 * i + k) ≤ t) (y : Nat) :
    lateF N S (upd M (4 * i + side) t) y = min (lateF N S M y) (leadL N S seen i t y) := by
  have hle := (late_tick ok S).le M y
  unfold leadL
  by_cases hc : y < 4 * N.n ∧ N.can (y / 4) (y % 4) = true
  · by_cases hn : N.near (y / 4) (y % 4) = some i
    · have e0 : ∀ fr, fr ≠ side → upd M (4 * i + side) t (4 * i + fr) = M (4 * i + fr) := fun fr h => upd_ne _ _ (by omega)
      have e1 : upd M (4 * i + side) t (4 * i + side) = t := upd_at _ _ _
      have hb : best4 (fun fr => upd M (4 * i + side) t (4 * i + fr)) = min (best4 (fun fr => M (4 * i + fr))) t := by
        unfold best4
        dsimp only
        have : side = 0 ∨ side = 1 ∨ side = 2 ∨ side = 3 := by omega
        rcases this with rfl | rfl | rfl | rfl
        · rw [e1, e0 1 (by omega), e0 2 (by omega), e0 3 (by omega)]; omega
        · rw [e1, e0 0 (by omega), e0 2 (by omega), e0 3 (by omega)]; omega
        · rw [e1, e0 1 (by omega), e0 0 (by omega), e0 3 (by omega)]; omega
        · rw [e1, e0 1 (by omega), e0 2 (by omega), e0 0 (by omega)]; omega
      cases seen with
      | true =>
        rw [if_neg (by simp)]
        obtain ⟨k, hk, hkt⟩ := h1 rfl
        have := best4_le (f := fun fr => M (4 * i + fr)) hk
        have e : lateF N S (upd M (4 * i + side) t) y = lateF N S M y := by
          unfold lateF
          rw [if_pos hc, if_pos hc, hn]
          dsimp only at this ⊢
          have hm : min (best4 fun fr => M (4 * i + fr)) t = best4 fun fr => M (4 * i + fr) := Nat.min_eq_left (by omega)
          rw [hb, hm]
        rw [e]
        omega
      | false =>
        rw [if_pos ⟨rfl, hc.1, hc.2, hn⟩]
        have hk := h0 rfl
        have hb2 : best4 (fun fr => M (4 * i + fr)) = big := by
          unfold best4
          dsimp only
          rw [hk 0 (by omega), hk 1 (by omega), hk 2 (by omega), hk 3 (by omega)]
          omega
        unfold lateF
        rw [if_pos hc, if_pos hc, hn]
        dsimp only
        rw [hb, hb2, (gL_lead ok S i (opp (y % 4))).top (t := big) (Nat.le_refl _), Nat.min_eq_right ht]
        have := (gL_lead ok S i (opp (y % 4))).le t
        omega
    · rw [if_neg (fun h => hn h.2.2.2)]
      have : lateF N S (upd M (4 * i + side) t) y = lateF N S M y := by
        unfold lateF
        rw [if_pos hc, if_pos hc]
        cases hq : N.near (y / 4) (y % 4) with
        | none => rfl
        | some q =>
          have hne : q ≠ i := fun e => hn (by rw [hq, e])
          dsimp only
          have e0 : ∀ fr, fr < 4 → upd M (4 * i + side) t (4 * q + fr) = M (4 * q + fr) := fun fr h => upd_ne _ _ (by omega)
          unfold best4
          dsimp only
          rw [e0 0 (by omega), e0 1 (by omega), e0 2 (by omega), e0 3 (by omega)]
      rw [this]
      omega
  · rw [if_neg (fun h => hc ⟨h.2.1, h.2.2.1⟩)]
    unfold lateF
    rw [if_neg hc, if_neg hc]
    omega

/-! ### Rounds -/
structure Rd where
  E : Nat → Nat
  S : Nat → Nat → Bool
  L : Nat → Nat
def rdNext (N : Net) (L : Nat → Nat) : Rd :=
  ⟨fixp (earlyF N L), mayT (fixp (earlyF N L)) L, fixp (lateF N (mayT (fixp (earlyF N L)) L))⟩
def rd (N : Net) : Nat → Rd
  | 0 => ⟨fun _ => big, fun _ _ => false, fun _ => big⟩
  | k + 1 => rdNext N (rd N k).L
/-- Narrower: what is later, or surer. -/
structure Wider (N N' : Net) : Prop where
  n : N'.n = N.n
  can : N'.can = N.can
  hit : N'.hit = N.hit
  near : N'.near = N.near
  push : N'.push = N.push
  low : ∀ i, N'.low i ≤ N.low i
  high : ∀ i, N.high i ≤ N'.high i
theorem Wider.refl (N : Net) : Wider N N := ⟨rfl, rfl, rfl, rfl, rfl, fun _ => Nat.le_refl _, fun _ => Nat.le_refl _⟩
theorem gE_wider {N N' : Net} (h : Wider N N') {L L' : Nat → Nat} (hL : ∀ y, L y ≤ L' y) (q fr to t : Nat) : gE N' L' q fr to t ≤ gE N L q fr to t := by
  unfold gE
  rw [h.hit]
  have hl := h.low q
  split
  · split
    · omega
    · omega
  · rename_i h1
    split
    · rename_i h2
      refine absurd ⟨?_, h2.2⟩ h1
      have h3 := h2.1
      simp only [Bool.and_eq_true, decide_eq_true_eq, Bool.not_eq_true'] at h3 ⊢
      refine ⟨h3.1, ?_⟩
      cases hb : bef L' q t fr with
      | false => rfl
      | true =>
        have := bef_mono (Nat.le_refl t) hL hb
        rw [h3.2] at this
        cases this
    · omega
theorem early_wider {N N' : Net} (h : Wider N N') {L L' : Nat → Nat} (hL : ∀ y, L y ≤ L' y) (E : Nat → Nat) (y : Nat) : earlyF N' L' E y ≤ earlyF N L E y := by
  unfold earlyF
  rw [h.n, h.can, h.near, h.push]
  split
  · cases N.near (y / 4) (y % 4) with
    | none => exact Nat.le_refl _
    | some q =>
      have := best4_mono (f := fun fr => gE N' L' q fr (opp (y % 4)) (E (4 * q + fr))) (g := fun fr => gE N L q fr (opp (y % 4)) (E (4 * q + fr))) fun k _ => gE_wider h hL _ _ _ _
      dsimp only
      omega
  · exact Nat.le_refl _
theorem late_wider {N N' : Net} (h : Wider N N') {S S' : Nat → Nat → Bool} (hS : ∀ i s, S i s = true → S' i s = true) (E : Nat → Nat) (y : Nat) : lateF N S E y ≤ lateF N' S' E y := by
  unfold lateF
  rw [h.n, h.can, h.near, h.push]
  split
  · cases N.near (y / 4) (y % 4) with
    | none => exact Nat.le_refl _
    | some q =>
      have : gL N S q (opp (y % 4)) (best4 fun fr => E (4 * q + fr)) ≤ gL N' S' q (opp (y % 4)) (best4 fun fr => E (4 * q + fr)) := by
        unfold gL
        have hh := h.high q
        split
        · split <;> omega
        · rename_i h1
          split
          · rename_i h2
            refine absurd ?_ h1
            unfold always at h2 ⊢
            rw [List.all_eq_true] at h2 ⊢
            intro k hk
            have := h2 k hk
            rw [h.hit] at this
            cases hs : S q k with
            | false => rfl
            | true => rw [hS q k hs] at this; simpa using this
          · omega
      dsimp only
      omega
  · exact Nat.le_refl _
theorem mayT_wider {E E' L L' : Nat → Nat} (hE : ∀ y, E' y ≤ E y) (hL : ∀ y, L y ≤ L' y) (i s : Nat) (h : mayT E L i s = true) : mayT E' L' i s = true := by
  unfold mayT at h ⊢
  simp only [Bool.and_eq_true, decide_eq_true_eq, Bool.not_eq_true'] at h ⊢
  have := hE (4 * i + s)
  refine ⟨by omega, ?_⟩
  cases hb : bef L' i (E' (4 * i + s)) s with
  | false => rfl
  | true =>
    have := bef_mono this hL hb
    rw [h.2] at this
    cases this
theorem rdNext_wider {N N' : Net} (ok : N.Ok) (ok' : N'.Ok) (h : Wider N N') {L L' : Nat → Nat} (hL : ∀ y, L y ≤ L' y) :
    (∀ y, (rdNext N' L').E y ≤ (rdNext N L).E y) ∧ (∀ i s, (rdNext N L).S i s = true → (rdNext N' L').S i s = true) ∧ (∀ y, (rdNext N L).L y ≤ (rdNext N' L').L y) := by
  have h1 : ∀ y, fixp (earlyF N' L') y ≤ fixp (earlyF N L) y := fixp_mono (early_tick ok L) (early_wider h hL)
  have h2 : ∀ i s, mayT (fixp (earlyF N L)) L i s = true → mayT (fixp (earlyF N' L')) L' i s = true := fun i s => mayT_wider h1 hL i s
  have h3 : ∀ y, fixp (lateF N (mayT (fixp (earlyF N L)) L)) y ≤ fixp (lateF N' (mayT (fixp (earlyF N' L')) L')) y := fixp_mono (late_tick ok' _) (late_wider h h2)
  unfold rdNext
  exact ⟨h1, h2, h3⟩
theorem rd_wider {N N' : Net} (ok : N.Ok) (ok' : N'.Ok) (h : Wider N N') (k : Nat) : ∀ y, (rd N k).L y ≤ (rd N' k).L y := by
  induction k with
  | zero => intro y; exact Nat.le_refl _
  | succ k ih => exact (rdNext_wider ok ok' h ih).2.2
theorem rd_le {N : Net} (ok : N.Ok) (k : Nat) : ∀ y, (rd N k).L y ≤ big := by
  cases k with
  | zero => intro y; exact Nat.le_refl _
  | succ k => exact (late_tick ok _).fix_le
theorem rd_down {N : Net} (ok : N.Ok) (k : Nat) : ∀ y, (rd N (k + 1)).L y ≤ (rd N k).L y := by
  induction k with
  | zero => intro y; exact (late_tick ok (mayT (fixp (earlyF N (fun _ => big))) (fun _ => big))).fix_le y
  | succ k ih => exact (rdNext_wider ok ok (Wider.refl N) ih).2.2
def sameL (m : Nat) (A B : Nat → Nat) : Bool := (List.range m).all fun y => decide (A y = B y)
theorem sameL_iff {m : Nat} {A B : Nat → Nat} : sameL m A B = true ↔ ∀ y, y < m → A y = B y := by
  unfold sameL
  rw [List.all_eq_true]
  constructor
  · intro h y hy; exact of_decide_eq_true (h y (List.mem_range.2 hy))
  · intro h y hy; exact decide_eq_true (h y (List.mem_range.1 hy))
/-- Whether a round changes nothing. -/
def rdSame (N : Net) (k : Nat) : Bool := sameL (4 * N.n) (rd N k).E (rd N (k + 1)).E && sameL (4 * N.n) (rd N k).L (rd N (k + 1)).L
theorem fix_out {F : (Nat → Nat) → Nat → Nat} {m : Nat} (h : Tick F) (hs : Slow F m) {y : Nat} (hy : m ≤ y) : fixp F y = big := by rw [h.fix y]; exact hs.out _ _ hy
theorem rd_out {N : Net} (ok : N.Ok) (k : Nat) {y : Nat} (hy : 4 * N.n ≤ y) : (rd N k).E y = big ∧ (rd N k).L y = big := by
  cases k with
  | zero => exact ⟨rfl, rfl⟩
  | succ k => exact ⟨fix_out (early_tick ok _) (early_slow ok _) hy, fix_out (late_tick ok _) (late_slow ok _) hy⟩
theorem rd_L_eq {N : Net} (ok : N.Ok) {k : Nat} (h : sameL (4 * N.n) (rd N k).L (rd N (k + 1)).L = true) : (rd N k).L = (rd N (k + 1)).L := by
  funext y
  rcases Nat.lt_or_ge y (4 * N.n) with h1 | h1
  · exact sameL_iff.1 h y h1
  · rw [(rd_out ok k h1).2, (rd_out ok (k + 1) h1).2]
theorem rd_stop {N : Net} (ok : N.Ok) : ∃ K, rdSame N K = true := by
  have step : ∀ k, rdSame N (k + 1) = true ∨ sumE (rd N (k + 1)).L (4 * N.n) < sumE (rd N k).L (4 * N.n) := by
    intro k
    by_cases h : sameL (4 * N.n) (rd N k).L (rd N (k + 1)).L = true
    · left
      have e := rd_L_eq ok h
      have e1 : rd N (k + 1 + 1) = rd N (k + 1) := by
        show rdNext N (rd N (k + 1)).L = rdNext N (rd N k).L
        rw [e]
      unfold rdSame
      rw [e1, Bool.and_eq_true]
      exact ⟨sameL_iff.2 fun y _ => rfl, sameL_iff.2 fun y _ => rfl⟩
    · right
      have hd := rd_down ok k
      have : ∃ y, y < 4 * N.n ∧ (rd N (k + 1)).L y < (rd N k).L y := by
        apply Classical.byContradiction
        intro hn
        refine h (sameL_iff.2 fun y hy => ?_)
        have := hd y
        rcases Nat.lt_or_ge ((rd N (k + 1)).L y) ((rd N k).L y) with h1 | h1
        · exact absurd ⟨y, hy, h1⟩ hn
        · omega
      obtain ⟨y, hy, hlt⟩ := this
      have key : ∀ m, sumE (rd N (k + 1)).L m + (if y < m then 1 else 0) ≤ sumE (rd N k).L m := by
        intro m
        induction m with
        | zero => simp [sumE]
        | succ m ih =>
          unfold sumE
          have := hd m
          by_cases h1 : y < m
          · have h2 : y < m + 1 := by omega
            simp only [h1, h2, if_true] at ih ⊢
            omega
          · by_cases h3 : y = m
            · subst h3
              simp only [Nat.lt_irrefl, Nat.lt_succ_self, if_true, if_false] at ih ⊢
              omega
            · have h2 : ¬ y < m + 1 := by omega
              simp only [h1, h2, if_false] at ih ⊢
              omega
      have := key (4 * N.n)
      simp only [hy, if_true] at this
      omega
  have : ∀ f k, sumE (rd N k).L (4 * N.n) ≤ f → ∃ K, rdSame N K = true := by
    intro f
    induction f with
    | zero =>
      intro k hk
      rcases step k with h | h
      · exact ⟨_, h⟩
      · omega
    | succ f ih =>
      intro k hk
      rcases step k with h | h
      · exact ⟨_, h⟩
      · exact ih (k + 1) (by omega)
  exact this _ 0 (Nat.le_refl _)
end Go.Proofs.Ytgkgklgeobbmlaa
