/-
  Plain law of the program's falls: what waits, tick by tick; the first hit of a sorted row that finds its piece standing makes it fall.
  Conditions: none; plain law.
-/
import Derived.Test.YtmjlnhhgpdcobaaFallTell
namespace Go.Proofs.Ytmjlnhhgpdcobaa
set_option linter.unusedSimpArgs false
set_option linter.unusedVariables false

/-- What waits ('Pd t p s': a hit of piece p from side s at tick t), beside what has been found. -/
structure Wait (B : Bo) (P : Nat → Nat → Nat) (D : Nat → Bool) (E : Nat → Nat) (Pd : Nat → Nat → Nat → Prop) : Prop where
  fnd : Fnd (fallF B P) D E
  up : ∀ t p s, Pd t p s → p < B.n ∧ s < 4 ∧ 4 * t + s < big ∧ (D p = false → B.can p s = true → E p ≤ 4 * t + s)
  has : ∀ y, D y = false → E y < big → Pd (E y / 4) y (E y % 4) ∧ B.can y (E y % 4) = true
theorem Wait.fin {B : Bo} {P : Nat → Nat → Nat} {D : Nat → Bool} {E : Nat → Nat} {Pd : Nat → Nat → Nat → Prop} (h : Wait B P D E Pd) (hn : ∀ t p s, ¬ Pd t p s) : ∀ y, D y = false → ¬ E y < big :=
  fun y hy hb => hn _ _ _ (h.has y hy hb).1
/-- A hit that finds its piece fallen, or cannot make it fall, is left away. -/
theorem Wait.skip {B : Bo} {P : Nat → Nat → Nat} {D : Nat → Bool} {E : Nat → Nat} {Pd Pd' : Nat → Nat → Nat → Prop} (h : Wait B P D E Pd) {t p s : Nat} (hps : D p = true ∨ B.can p s = false)
    (h1 : ∀ t' p' s', Pd' t' p' s' → Pd t' p' s') (h2 : ∀ t' p' s', Pd t' p' s' → ¬ (t' = t ∧ p' = p ∧ s' = s) → Pd' t' p' s') : Wait B P D E Pd' := by
  refine ⟨h.fnd, fun t' p' s' hx => h.up t' p' s' (h1 _ _ _ hx), fun y hy hb => ?_⟩
  obtain ⟨h3, h4⟩ := h.has y hy hb
  refine ⟨h2 _ _ _ h3 ?_, h4⟩
  rintro ⟨_, rfl, e3⟩
  rcases hps with h5 | h5
  · rw [hy] at h5; cases h5
  · rw [e3, h5] at h4; cases h4
/-- The first hit in order finds its piece standing: it has the key that was found for it. -/
theorem Wait.first {B : Bo} {P : Nat → Nat → Nat} {D : Nat → Bool} {E : Nat → Nat} {Pd : Nat → Nat → Nat → Prop} (h : Wait B P D E Pd) {t p s : Nat} (hp : Pd t p s) (hd : D p = false) (hc : B.can p s = true)
    (ht : ∀ t' p' s', Pd t' p' s' → t ≤ t') (hs : ∀ s', Pd t p s' → s ≤ s') : E p = 4 * t + s ∧ E p < big ∧ ∀ y, D y = false → E p / 4 ≤ E y / 4 := by
  obtain ⟨h1, h2, h3, h4⟩ := h.up t p s hp
  have h5 := h4 hd hc
  have h6 : E p < big := by omega
  obtain ⟨h7, h8⟩ := h.has p hd h6
  have h9 := ht _ _ _ h7
  have he : E p = 4 * t + s := by
    have : E p / 4 = t := by omega
    rw [this] at h7
    have := hs _ h7
    omega
  refine ⟨he, h6, fun y hy => ?_⟩
  by_cases hb : E y < big
  · have := ht _ _ _ (h.has y hy hb).1
    omega
  · have h10 : big / 4 = 274877906944 := rfl
    have h11 : big = 1099511627776 := rfl
    omega
/-- .. it falls, and its own hits wait. -/
theorem Wait.fall {B : Bo} (ok : B.Ok) {P : Nat → Nat → Nat} (hP : ∀ i s, P i s ≤ big) {D : Nat → Bool} {E : Nat → Nat} {Pd Pd' : Nat → Nat → Nat → Prop} (h : Wait B P D E Pd) {t p s : Nat} (hp : Pd t p s) (hd : D p = false) (hc : B.can p s = true)
    (ht : ∀ t' p' s', Pd t' p' s' → t ≤ t') (hs : ∀ s', Pd t p s' → s ≤ s') (hsm : 4 * (t + 9) + 4 ≤ big)
    (h1 : ∀ t' p' s', Pd' t' p' s' → Pd t' p' s' ∨ (∃ sd, sd < 4 ∧ B.near p sd = some p' ∧ B.hit p s sd = true ∧ t' = t + B.d p ∧ s' = opp sd))
    (h2 : ∀ t' p' s', Pd t' p' s' → ¬ (t' = t ∧ p' = p ∧ s' = s) → Pd' t' p' s')
    (h3 : ∀ sd k, sd < 4 → B.near p sd = some k → B.hit p s sd = true → Pd' (t + B.d p) k (opp sd)) :
    E p = 4 * t + s ∧ Wait B P (fun y => decide (y = p) || D y) (fun y => min (E y) (leadK B p (E p) y)) Pd' := by
  obtain ⟨he, hb, hmin⟩ := h.first hp hd hc ht hs
  obtain ⟨hpn, hs4, _, _⟩ := h.up t p s hp
  have hdd := ok.d1 p
  have hm : E p % 4 = s := by omega
  have hq : E p / 4 = t := by omega
  have hlead : ∀ sd k, sd < 4 → B.near p sd = some k → B.hit p s sd = true → B.can k (opp sd) = true → leadK B p (E p) k ≤ 4 * (t + B.d p) + opp sd := by
    intro sd k hsd hn hh hck
    obtain ⟨hk, hk2⟩ := ok.sym p sd k hpn hsd hn
    unfold leadK
    rw [if_pos hk]
    refine Nat.le_trans (best4_le (k := opp sd) (by unfold opp; omega)) ?_
    rw [if_pos ⟨hck, hk2⟩, opp_opp2 hsd]
    unfold gK
    rw [if_pos ⟨hb, by rw [hm]; exact hh⟩, hq]
    omega
  refine ⟨he, h.fnd.fall ok hP hd hb hmin, fun t' p' s' hx => ?_, fun y hy hyb => ?_⟩
  · rcases h1 _ _ _ hx with h4 | ⟨sd, h4, h5, h6, rfl, rfl⟩
    · obtain ⟨a1, a2, a3, a4⟩ := h.up _ _ _ h4
      refine ⟨a1, a2, a3, fun b1 b2 => ?_⟩
      simp only [Bool.or_eq_false_iff] at b1
      have := a4 b1.2 b2
      omega
    · obtain ⟨hk, hk2⟩ := ok.sym p sd p' hpn h4 h5
      refine ⟨hk, by unfold opp; omega, by unfold opp; omega, fun b1 b2 => ?_⟩
      have := hlead sd p' h4 h5 h6 b2
      omega
  · simp only [Bool.or_eq_false_iff, decide_eq_false_iff_not] at hy
    obtain ⟨hyp, hyd⟩ := hy
    by_cases hle : E y ≤ leadK B p (E p) y
    · rw [Nat.min_eq_left hle] at hyb ⊢
      obtain ⟨a1, a2⟩ := h.has y hyd hyb
      exact ⟨h2 _ _ _ a1 (fun e => hyp e.2.1), a2⟩
    · have hgt : leadK B p (E p) y ≤ E y := by omega
      rw [Nat.min_eq_right hgt] at hyb ⊢
      unfold leadK at hyb ⊢
      by_cases hyn : y < B.n
      · rw [if_pos hyn] at hyb ⊢
        obtain ⟨k, hk, e⟩ := best4_ex (fun s => if B.can y s = true ∧ B.near y s = some p then gK B p (opp s) s (E p) else big)
        rw [e] at hyb ⊢

        by_cases hcn : B.can y k = true ∧ B.near y k = some p
        · rw [if_pos hcn] at hyb ⊢
          unfold gK at hyb ⊢
          by_cases hh : E p < big ∧ B.hit p (E p % 4) (opp k) = true
          · rw [if_pos hh] at hyb ⊢
            rw [hq] at hyb ⊢
            have hval : min big (4 * (t + B.d p) + k) = 4 * (t + B.d p) + k := by omega
            rw [hval]
            have e1 : (4 * (t + B.d p) + k) / 4 = t + B.d p := by omega
            have e2 : (4 * (t + B.d p) + k) % 4 = k := by omega
            rw [e1, e2]
            refine ⟨?_, hcn.1⟩
            have := h3 (opp k) y (by unfold opp; omega) (ok.sym y k p hyn hk hcn.2).2 (by rw [← hm]; exact hh.2)
            rw [opp_opp2 hk] at this
            exact this
          · rw [if_neg hh] at hyb; omega
        · rw [if_neg hcn] at hyb; omega
      · rw [if_neg hyn] at hyb; omega
end Go.Proofs.Ytmjlnhhgpdcobaa
