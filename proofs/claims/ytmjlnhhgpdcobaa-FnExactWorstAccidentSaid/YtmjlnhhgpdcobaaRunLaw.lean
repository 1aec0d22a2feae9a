/-
  Plain law of a run: the rows of hits that wait, by ticks, against what waits in the system of falls.
  Conditions: none; plain law.
-/
import Derived.Test.YtmjlnhhgpdcobaaFallQ
import Derived.Test.YtmjlnhhgpdcobaaQueI
import Derived.Test.YtmjlnhhgpdcobaaBoF
import Derived.Test.YtmjlnhhgpdcobaaRunS2
namespace Go.Proofs.Ytmjlnhhgpdcobaa
open Go.RowKit
set_option linter.unusedSimpArgs false
set_option linter.unusedVariables false

/-- A hit that is right. -/
def HitOk (n t : Nat) (h : Q4) : Prop := h.a = (t : Int) ∧ (∃ p : Nat, h.b = p ∧ p < n) ∧ (∃ s : Nat, h.c = s ∧ s < 4) ∧ -1 ≤ h.d ∧ h.d ≤ 1000
structure PQ (Q : Nat → List Q4) (T : List Nat) (nm lo M n : Nat) : Prop where
  srt : T.Pairwise (· < ·)
  mem : ∀ t, lo ≤ t → (t ∈ T ↔ Q t ≠ [])
  low : ∀ t ∈ T, lo ≤ t
  frm : ∀ t, lo ≤ t → ∀ h ∈ Q t, HitOk n t h
  top : ∀ t ∈ T, t ≤ M
  len : T.length ≤ nm
  qln : ∀ t, lo ≤ t → (Q t).length ≤ nm
theorem count_parts (t : Nat) : ∀ (T : List Nat), T.Pairwise (· < ·) → (∀ x ∈ T.take (T.countP (· < t)), x < t) ∧ ∀ x ∈ T.drop (T.countP (· < t)), t ≤ x
  | [], _ => by simp
  | a :: r, h => by
    rw [List.pairwise_cons] at h
    obtain ⟨h1, h2⟩ := count_parts t r h.2
    by_cases ha : a < t
    · rw [List.countP_cons_of_pos (by simpa using ha), List.take_succ_cons, List.drop_succ_cons]
      refine ⟨fun x hx => ?_, h2⟩
      rcases List.mem_cons.1 hx with rfl | hx
      · exact ha
      · exact h1 x hx
    · have h0 : (a :: r).countP (· < t) = 0 := by
        rw [List.countP_eq_zero]
        intro x hx
        rcases List.mem_cons.1 hx with rfl | hx
        · simpa using ha
        · have := h.1 x hx
          simp only [decide_eq_true_eq]
          omega
      rw [h0, List.take_zero, List.drop_zero]
      refine ⟨fun x hx => absurd hx (List.not_mem_nil), fun x hx => ?_⟩
      rcases List.mem_cons.1 hx with rfl | hx
      · omega
      · have := h.1 x hx
        omega
theorem mem_insT (T : List Nat) (t x : Nat) : x ∈ insT T t ↔ x = t ∨ x ∈ T := by
  have e : x ∈ T ↔ x ∈ T.take (T.countP (· < t)) ∨ x ∈ T.drop (T.countP (· < t)) := by
    rw [← List.mem_append, List.take_append_drop]
  unfold insT
  rw [e, List.mem_append, List.mem_cons]
  constructor
  · rintro (h | h | h)
    · exact .inr (.inl h)
    · exact .inl h
    · exact .inr (.inr h)
  · rintro (h | h | h)
    · exact .inr (.inl h)
    · exact .inl h
    · exact .inr (.inr h)
theorem insT_sorted {T : List Nat} {t : Nat} (h : T.Pairwise (· < ·)) (ht : t ∉ T) : (insT T t).Pairwise (· < ·) := by
  obtain ⟨h1, h2⟩ := count_parts t T h
  have h3 : (T.take (T.countP (· < t)) ++ T.drop (T.countP (· < t))).Pairwise (· < ·) := by rw [List.take_append_drop]; exact h
  rw [List.pairwise_append] at h3
  unfold insT
  rw [List.pairwise_append, List.pairwise_cons]
  have h4 : ∀ x ∈ T.drop (T.countP (· < t)), t < x := fun x hx => by
    have := h2 x hx
    have hne : x ≠ t := fun e => ht (e ▸ List.mem_of_mem_drop hx)
    omega
  refine ⟨h3.1, ⟨h4, h3.2.1⟩, fun a ha b hb => ?_⟩
  rcases List.mem_cons.1 hb with rfl | hb
  · exact h1 a ha
  · exact h3.2.2 a ha b hb
theorem PQ.add {Q : Nat → List Q4} {T : List Nat} {nm lo M n : Nat} (h : PQ Q T nm lo M n) {t : Nat} (ht : lo ≤ t) (hM : t ≤ M) {q : Q4} (hq : HitOk n t q) : PQ (updQ Q t (Q t ++ [q])) (if Q t = [] then insT T t else T) (nm + 1) lo M n := by
  have hmem : ∀ x, x ∈ (if Q t = [] then insT T t else T) ↔ x = t ∨ x ∈ T := by
    intro x
    split
    · exact mem_insT T t x
    · rename_i hn
      constructor
      · exact .inr
      · rintro (rfl | hx)
        · exact (h.mem x ht).2 hn
        · exact hx
  refine ⟨?_, fun s hs => ?_, fun s hs => ?_, fun s hs p hp => ?_, fun s hs => ?_, ?_, fun s hs => ?_⟩
  · split
    · rename_i hn
      exact insT_sorted h.srt (fun hx => (h.mem t ht).1 hx hn)
    · exact h.srt
  · rw [hmem]
    unfold updQ
    by_cases e : s = t
    · subst e
      simp
    · rw [if_neg e]
      constructor
      · rintro (h1 | h1)
        · exact absurd h1 e
        · exact (h.mem s hs).1 h1
      · exact fun h1 => .inr ((h.mem s hs).2 h1)
  · rcases (hmem s).1 hs with rfl | h1
    · exact ht
    · exact h.low s h1
  · unfold updQ at hp
    by_cases e : s = t
    · subst e
      rw [if_pos rfl] at hp
      rcases List.mem_append.1 hp with hp | hp
      · exact h.frm s hs p hp
      · rw [List.mem_singleton] at hp
        subst hp
        exact hq
    · rw [if_neg e] at hp
      exact h.frm s hs p hp
  · rcases (hmem s).1 hs with rfl | h1
    · exact hM
    · exact h.top s h1
  · have := h.len
    split
    · have e : (insT T t).length = T.length + 1 := by
        have : T.countP (· < t) ≤ T.length := List.countP_le_length
        unfold insT
        rw [List.length_append, List.length_take, List.length_cons, List.length_drop]
        omega
      omega
    · omega
  · have := h.qln s hs
    unfold updQ
    split
    · rename_i e
      subst e
      rw [List.length_append]
      simp
      exact this
    · omega
theorem PQ.mono {Q : Nat → List Q4} {T : List Nat} {nm nm' lo M M' n : Nat} (h : PQ Q T nm lo M n) (h1 : nm ≤ nm') (h2 : M ≤ M') : PQ Q T nm' lo M' n :=
  ⟨h.srt, h.mem, h.low, h.frm, fun t ht => Nat.le_trans (h.top t ht) h2, Nat.le_trans h.len h1, fun t ht => Nat.le_trans (h.qln t ht) h1⟩
theorem PQ.head {Q : Nat → List Q4} {T : List Nat} {nm lo M n t : Nat} (h : PQ Q (t :: T) nm lo M n) (ys : List Q4) : PQ (updQ Q t ys) T nm (t + 1) M n := by
  have hs := h.srt
  rw [List.pairwise_cons] at hs
  have hlt := h.low t (List.mem_cons_self)
  have hQ : ∀ s, t + 1 ≤ s → updQ Q t ys s = Q s := fun s hs => by unfold updQ; rw [if_neg (by omega)]
  refine ⟨hs.2, fun s hl => ?_, fun s hx => hs.1 s hx, fun s hl => ?_, fun s hx => h.top s (List.mem_cons_of_mem _ hx), ?_, fun s hl => ?_⟩
  · rw [hQ s hl, ← h.mem s (by omega), List.mem_cons]
    constructor
    · exact .inr
    · rintro (e | h1)
      · omega
      · exact h1
  · rw [hQ s hl]; exact h.frm s (by omega)
  · have := h.len
    simp only [List.length_cons] at this
    omega
  · rw [hQ s hl]; exact h.qln s (by omega)
theorem PQ.nil {M n : Nat} : PQ (fun _ => []) [] 0 0 M n :=
  ⟨List.Pairwise.nil, fun t _ => by simp, fun t ht => absurd ht List.not_mem_nil, fun t _ h hh => absurd hh List.not_mem_nil, fun t ht => absurd ht List.not_mem_nil, by simp, fun t _ => by simp⟩
/-- What waits, from a tick on. -/
def PdO (Q : Nat → List Q4) (lo t p s : Nat) : Prop := lo ≤ t ∧ ∃ d : Int, (⟨t, p, s, d⟩ : Q4) ∈ Q t
/-- .. within a tick: of its own row what is left. -/
def PdN (ys : List Q4) (k t : Nat) (Q : Nat → List Q4) (t' p s : Nat) : Prop := (t' = t ∧ ∃ (j : Nat) (d : Int), k ≤ j ∧ ys[j]? = some ⟨t, p, s, d⟩) ∨ PdO Q (t + 1) t' p s
theorem Wait.same {B : Bo} {P : Nat → Nat → Nat} {D : Nat → Bool} {E : Nat → Nat} {Pd Pd' : Nat → Nat → Nat → Prop} (h : Wait B P D E Pd) (e : ∀ t p s, Pd t p s ↔ Pd' t p s) : Wait B P D E Pd' := by
  have : Pd = Pd' := by funext t p s; exact propext (e t p s)
  exact this ▸ h
/-- The pushes that a run begins with. -/
structure Psh (list : List Q4) (P : Nat → Nat → Nat) (n M : Nat) : Prop where
  ok : ∀ h ∈ list, ∃ t : Nat, t ≤ M ∧ HitOk n t h
  le : ∀ (t p s : Nat) (d : Int), (⟨t, p, s, d⟩ : Q4) ∈ list → P p s ≤ 4 * t + s
  has : ∀ p s : Nat, s < 4 → P p s < big → ∃ (t : Nat) (d : Int), (⟨t, p, s, d⟩ : Q4) ∈ list ∧ P p s = 4 * t + s
  top : ∀ p s, P p s ≤ big
theorem hitK_big {B : Bo} {P : Nat → Nat → Nat} (hP : ∀ i s, P i s ≤ big) (y k : Nat) : hitK B P (fun _ => big) y k = if B.can y k = true then P y k else big := by
  unfold hitK
  by_cases hc : B.can y k = true
  · rw [if_pos hc, if_pos hc]
    cases B.near y k with
    | none => exact Nat.min_eq_left (hP _ _)
    | some q =>
      show min _ (gK B q (opp k) k big) = _
      rw [gK_big]
      exact Nat.min_eq_left (hP _ _)
  · rw [if_neg hc, if_neg hc]
theorem wait_start {B : Bo} {P : Nat → Nat → Nat} {list : List Q4} {M : Nat} (hP : Psh list P B.n M) (hM : M ≤ 100000) {Q : Nat → List Q4} (hQ : ∀ (t : Nat) h, h ∈ Q t ↔ h ∈ list ∧ h.a = (t : Int)) :
    Wait B P (fun _ => false) (fallF B P (fun _ => big)) (PdO Q 0) := by
  have hb2 : big = 1099511627776 := rfl
  refine ⟨fnd_start (fun y => rfl), fun t p s hx => ?_, fun y _ hy => ?_⟩
  · obtain ⟨_, d, hd⟩ := hx
    have h1 := ((hQ t _).1 hd).1
    obtain ⟨t2, ht2, h2, ⟨p2, e2, hp2⟩, ⟨s2, e3, hs2⟩, _⟩ := hP.ok _ h1
    have et : t2 = t := by simp at h2; omega
    have ep : p2 = p := by simp at e2; omega
    have es : s2 = s := by simp at e3; omega
    subst et ep es
    refine ⟨hp2, hs2, by omega, fun _ hc => ?_⟩
    have := hP.le _ _ _ _ h1
    unfold fallF
    rw [if_pos hp2]
    refine Nat.le_trans (best4_le (k := s2) hs2) ?_
    rw [hitK_big hP.top, if_pos hc]
    exact this
  · unfold fallF at hy ⊢
    by_cases hn : y < B.n
    · rw [if_pos hn] at hy ⊢
      obtain ⟨k, hk, e⟩ := best4_ex (hitK B P (fun _ => big) y)
      rw [e] at hy ⊢
      rw [hitK_big hP.top] at hy ⊢
      by_cases hc : B.can y k = true
      · rw [if_pos hc] at hy ⊢
        obtain ⟨t, d, h1, h2⟩ := hP.has y k hk hy
        have e1 : P y k / 4 = t := by omega
        have e2 : P y k % 4 = k := by omega
        rw [e1, e2]
        exact ⟨⟨Nat.zero_le _, d, (hQ t _).2 ⟨h1, rfl⟩⟩, hc⟩
      · rw [if_neg hc] at hy; omega
    · rw [if_neg hn] at hy; omega
theorem wait_open {B : Bo} {P : Nat → Nat → Nat} {D : Nat → Bool} {E : Nat → Nat} {Q : Nat → List Q4} {T : List Nat} {nm lo M t : Nat} (h : Wait B P D E (PdO Q lo)) (hq : PQ Q (t :: T) nm lo M B.n) {ys : List Q4} (hp : ys.Perm (Q t)) : Wait B P D E (PdN ys 0 t (updQ Q t ys)) := by
  have hlo := hq.low t List.mem_cons_self
  have hs := hq.srt
  rw [List.pairwise_cons] at hs
  refine h.same fun t' p s => ?_
  unfold PdO PdN PdO
  have hup : ∀ s, t + 1 ≤ s → updQ Q t ys s = Q s := fun s hs => by unfold updQ; rw [if_neg (by omega)]
  constructor
  · rintro ⟨h1, d, hd⟩
    by_cases e : t' = t
    · subst e
      have := hp.mem_iff.2 hd
      obtain ⟨j, hj⟩ := List.mem_iff_getElem?.1 this
      exact .inl ⟨rfl, j, d, Nat.zero_le _, hj⟩
    · have hm := (hq.mem t' h1).2 (fun e2 => by rw [e2] at hd; cases hd)
      rcases List.mem_cons.1 hm with e2 | hm
      · exact absurd e2 e
      · have := hs.1 t' hm
        exact .inr ⟨by omega, d, by rw [hup t' (by omega)]; exact hd⟩
  · rintro (⟨rfl, j, d, _, hj⟩ | ⟨h1, d, hd⟩)
    · exact ⟨hlo, d, hp.mem_iff.1 (List.mem_of_getElem? hj)⟩
    · rw [hup t' h1] at hd
      exact ⟨by omega, d, hd⟩
theorem wait_shut {B : Bo} {P : Nat → Nat → Nat} {D : Nat → Bool} {E : Nat → Nat} {Q : Nat → List Q4} {t : Nat} {ys : List Q4} (h : Wait B P D E (PdN ys ys.length t Q)) : Wait B P D E (PdO Q (t + 1)) := by
  refine h.same fun t' p s => ?_
  unfold PdN
  constructor
  · rintro (⟨_, j, d, h1, h2⟩ | h1)
    · have := (List.getElem?_eq_some_iff.1 h2).1
      omega
    · exact h1
  · exact .inr
theorem wait_skip {B : Bo} {P : Nat → Nat → Nat} {D : Nat → Bool} {E : Nat → Nat} {Q : Nat → List Q4} {t k p s : Nat} {d : Int} {ys : List Q4} (h : Wait B P D E (PdN ys k t Q)) (hk : ys[k]? = some ⟨t, p, s, d⟩) (hps : D p = true ∨ B.can p s = false) : Wait B P D E (PdN ys (k + 1) t Q) := by
  refine h.skip (t := t) hps (fun t' p' s' hx => ?_) (fun t' p' s' hx hne => ?_)
  · rcases hx with ⟨h1, j, d', h2, h3⟩ | h1
    · exact .inl ⟨h1, j, d', by omega, h3⟩
    · exact .inr h1
  · rcases hx with ⟨rfl, j, d', h2, h3⟩ | h1
    · by_cases e : j = k
      · subst e
        rw [hk] at h3
        injection h3 with h3
        injection h3 with h4 h5 h6 h7
        exact absurd ⟨rfl, by omega, by omega⟩ hne
      · exact .inl ⟨rfl, j, d', by omega, h3⟩
    · exact .inr h1
/-- What a fall adds, side by side. -/
def Acc (B : Bo) (Q Q' : Nat → List Q4) (t p s sd : Nat) : Prop :=
  ∀ (t' : Nat) (h : Q4), t + 1 ≤ t' → (h ∈ Q' t' ↔ h ∈ Q t' ∨ ∃ e k : Nat, e < sd ∧ B.near p e = some k ∧ B.hit p s e = true ∧ t' = t + B.d p ∧ h = ⟨t', k, (opp e : Nat), p⟩)
theorem Acc.zero {B : Bo} {Q : Nat → List Q4} {t p s : Nat} : Acc B Q Q t p s 0 := by
  intro t' h _
  constructor
  · exact .inl
  · rintro (h1 | ⟨e, k, he, _⟩)
    · exact h1
    · omega
theorem Acc.none {B : Bo} {Q Q' : Nat → List Q4} {t p s sd : Nat} (h : Acc B Q Q' t p s sd) (hn : B.near p sd = none ∨ B.hit p s sd = false) : Acc B Q Q' t p s (sd + 1) := by
  intro t' q ht
  rw [h t' q ht]
  constructor
  · rintro (h1 | ⟨e, k, he, h2⟩)
    · exact .inl h1
    · exact .inr ⟨e, k, by omega, h2⟩
  · rintro (h1 | ⟨e, k, he, h2⟩)
    · exact .inl h1
    · by_cases e2 : e = sd
      · subst e2
        rcases hn with h3 | h3
        · rw [h3] at h2; cases h2.1
        · rw [h3] at h2; cases h2.2.1
      · exact .inr ⟨e, k, by omega, h2⟩
theorem Acc.add {B : Bo} {Q Q' : Nat → List Q4} {t p s sd k : Nat} (h : Acc B Q Q' t p s sd) (hn : B.near p sd = some k) (hh : B.hit p s sd = true) {t2 : Nat} (ht2 : t2 = t + B.d p) : Acc B Q (updQ Q' t2 (Q' t2 ++ [⟨t2, k, (opp sd : Nat), p⟩])) t p s (sd + 1) := by
  intro t' q ht
  have hex : (∃ e k' : Nat, e < sd + 1 ∧ B.near p e = some k' ∧ B.hit p s e = true ∧ t' = t + B.d p ∧ q = ⟨t', k', (opp e : Nat), p⟩) ↔ (∃ e k' : Nat, e < sd ∧ B.near p e = some k' ∧ B.hit p s e = true ∧ t' = t + B.d p ∧ q = ⟨t', k', (opp e : Nat), p⟩) ∨ (t' = t + B.d p ∧ q = ⟨t', k, (opp sd : Nat), p⟩) := by
    constructor
    · rintro ⟨e, k', he, h1, h2, h3, h4⟩
      by_cases e2 : e = sd
      · subst e2
        rw [hn] at h1
        injection h1 with h1
        subst h1
        exact .inr ⟨h3, h4⟩
      · exact .inl ⟨e, k', by omega, h1, h2, h3, h4⟩
    · rintro (⟨e, k', he, h1⟩ | ⟨h3, h4⟩)
      · exact ⟨e, k', by omega, h1⟩
      · exact ⟨sd, k, by omega, hn, hh, h3, h4⟩
  rw [hex]
  have h0 := h t' q ht
  unfold updQ
  by_cases e : t' = t2
  · rw [if_pos e, ← e, List.mem_append, List.mem_singleton, h0]
    have : t' = t + B.d p := by omega
    constructor
    · rintro ((h1 | h1) | h1)
      · exact .inl h1
      · exact .inr (.inl h1)
      · exact .inr (.inr ⟨this, h1⟩)
    · rintro (h1 | h1 | h1)
      · exact .inl (.inl h1)
      · exact .inl (.inr h1)
      · exact .inr h1.2
  · rw [if_neg e, h0]
    constructor
    · rintro (h1 | h1)
      · exact .inl h1
      · exact .inr (.inl h1)
    · rintro (h1 | h1 | h1)
      · exact .inl h1
      · exact .inr h1
      · omega
theorem Acc.congr {B : Bo} {Q Q' Q2 : Nat → List Q4} {t p s sd : Nat} (h : Acc B Q Q' t p s sd) (e : ∀ t', t + 1 ≤ t' → Q2 t' = Q' t') : Acc B Q Q2 t p s sd := by
  intro t' q ht
  rw [e t' ht]
  exact h t' q ht
theorem wait_fall {B : Bo} (ok : B.Ok) {P : Nat → Nat → Nat} (hP : ∀ i s, P i s ≤ big) {D : Nat → Bool} {E : Nat → Nat} {Q Q' : Nat → List Q4} {t k p s : Nat} {d : Int} {ys : List Q4} (h : Wait B P D E (PdN ys k t Q)) (hk : ys[k]? = some ⟨t, p, s, d⟩)
    (hord : ∀ (i j : Nat) (p q : Q4), i < j → ys[i]? = some p → ys[j]? = some q → ¬ ltQ q p) (hd : D p = false) (hc : B.can p s = true) (ht : t ≤ 100000) (hacc : Acc B Q Q' t p s 4) :
    E p = 4 * t + s ∧ Wait B P (dnU D p) (fun y => min (E y) (leadK B p (E p) y)) (PdN ys (k + 1) t Q') := by
  have hb2 : big = 1099511627776 := rfl
  have hd9 := ok.d1 p
  have hp : PdN ys k t Q t p s := .inl ⟨rfl, k, d, Nat.le_refl _, hk⟩
  refine h.fall ok hP hp hd hc (fun t' p' s' hx => ?_) (fun s' hx => ?_) (by omega) (fun t' p' s' hx => ?_) (fun t' p' s' hx hne => ?_) (fun sd q hsd hn hh => ?_)
  · rcases hx with ⟨h1, _⟩ | ⟨h1, _⟩ <;> omega
  · rcases hx with ⟨_, j, d', h2, h3⟩ | ⟨h1, _⟩
    · by_cases e : j = k
      · subst e
        rw [hk] at h3
        injection h3 with h3
        injection h3 with h4 h5 h6 h7
        omega
      · have := hord k j _ _ (by omega) hk h3
        unfold ltQ at this
        dsimp only at this
        omega
    · omega
  · rcases hx with ⟨h1, j, d', h2, h3⟩ | ⟨h1, d', h2⟩
    · exact .inl (.inl ⟨h1, j, d', by omega, h3⟩)
    · rcases (hacc t' _ h1).1 h2 with h3 | ⟨e, q, he, h4, h5, h6, h7⟩
      · exact .inl (.inr ⟨h1, d', h3⟩)
      · injection h7 with h8 h9 h10 h11
        have e1 : p' = q := by omega
        have e2 : s' = opp e := by omega
        subst e1 e2
        exact .inr ⟨e, he, h4, h5, h6, rfl⟩
  · rcases hx with ⟨rfl, j, d', h2, h3⟩ | ⟨h1, d', h2⟩
    · by_cases e : j = k
      · subst e
        rw [hk] at h3
        injection h3 with h3
        injection h3 with h4 h5 h6 h7
        exact absurd ⟨rfl, by omega, by omega⟩ hne
      · exact .inl ⟨rfl, j, d', by omega, h3⟩
    · exact .inr ⟨h1, d', (hacc t' _ h1).2 (.inl h2)⟩
  · exact .inr ⟨by omega, p, (hacc (t + B.d p) _ (by omega)).2 (.inr ⟨sd, q, hsd, hn, hh, rfl, rfl⟩)⟩
theorem wait_end {B : Bo} (ok : B.Ok) {P : Nat → Nat → Nat} (hP : ∀ i s, P i s ≤ big) {D : Nat → Bool} {E : Nat → Nat} {Q : Nat → List Q4} {nm lo M : Nat} (h : Wait B P D E (PdO Q lo)) (hq : PQ Q [] nm lo M B.n) : ∀ y, (if D y = true then E y else big) = Fal B P y := by
  have hT := fall_tk ok hP
  have hno := h.fin (fun t p s hx => by
    obtain ⟨h1, d, h2⟩ := hx
    have : Q t ≠ [] := fun e => by rw [e] at h2; cases h2
    exact absurd ((hq.mem t h1).2 this) List.not_mem_nil)
  have hE := h.fnd.done hT hno
  intro y
  unfold Fal
  rw [← hE y]
  split
  · rfl
  · rename_i hy
    have h1 := hno y (by simpa using hy)
    have h2 : E y ≤ big := by rw [hE y]; exact hT.fix_le y
    omega
end Go.Proofs.Ytmjlnhhgpdcobaa
