/-
  Plain law of a run: the rows of hits that wait, by ticks, against what waits in the system of falls.
  What the program's run holds: the falls, the queue, a hit in a box; its loops' relations.
  Conditions: none; plain law. the board is right, the pushes are few.
-/
import Derived.Test.YthhfndifcdiomaaGreatFallLaw
import Derived.Test.YthhfndifcdiomaaGreatQueI
import Derived.Test.YthhfndifcdiomaaGreatBoF
import Derived.Test.YthhfndifcdiomaaGreatRunS2
import Derived.Test.YthhfndifcdiomaaGreatQueA
import Derived.Test.YthhfndifcdiomaaGreatRepF
import Derived.Test.YthhfndifcdiomaaGreatStage
namespace Go.Proofs.YthhfndifcdiomaaGreat
open Go.RowKit
set_option linter.unusedSimpArgs false
set_option linter.unusedVariables false

/-- A hit that is right. -/
def HitOk (n t : Nat) (h : Q4) : Prop := h.a = (t : Int) ∧ (∃ p : Nat, h.b = p ∧ p < n) ∧ (∃ s : Nat, h.c = s ∧ s < 4) ∧ -1 ≤ h.d ∧ h.d ≤ 1000
structure PQ (Q : Nat → List Q4) (T : List Nat) (nm lo M n : Nat) : Prop where
  srt : T.Pairwise (· < ·)
  mem : ∀ t, lo ≤ t → (t ∈ T ↔ Q t ≠ [])
  low : ∀ t ∈ T, lo ≤ t
  frm : ∀ t, lo ≤ t → ∀ h ∈ Q t, HitOk n t h
  top : ∀ t ∈ T, t ≤ M
  len : T.length ≤ nm
  qln : ∀ t, lo ≤ t → (Q t).length ≤ nm
theorem count_parts (t : Nat) : ∀ (T : List Nat), T.Pairwise (· < ·) → (∀ x ∈ T.take (T.countP (· < t)), x < t) ∧ ∀ x ∈ T.drop (T.countP (· < t)), t ≤ x
  | [], _ => by simp
  | a :: r, h => by
    rw [List.pairwise_cons] at h
    obtain ⟨h1, h2⟩ := count_parts t r h.2
    by_cases ha : a < t
    · rw [List.countP_cons_of_pos (by simpa using ha), List.take_succ_cons, List.drop_succ_cons]
      refine ⟨fun x hx => ?_, h2⟩
      rcases List.mem_cons.1 hx with rfl | hx
      · exact ha
      · exact h1 x hx
    · have h0 : (a :: r).countP (· < t) = 0 := by
        rw [List.countP_eq_zero]
        intro x hx
        rcases List.mem_cons.1 hx with rfl | hx
        · simpa using ha
        · have := h.1 x hx
          simp only [decide_eq_true_eq]
          omega
      rw [h0, List.take_zero, List.drop_zero]
      refine ⟨fun x hx => absurd hx (List.not_mem_nil), fun x hx => ?_⟩
      rcases List.mem_cons.1 hx with rfl | hx
      · omega
      · have := h.1 x hx
        omega
theorem mem_insT (T : List Nat) (t x : Nat) : x ∈ insT T t ↔ x = t ∨ x ∈ T := by
  have e : x ∈ T ↔ x ∈ T.take (T.countP (· < t)) ∨ x ∈ T.drop (T.countP (· < t)) := by
    rw [← List.mem_append, List.take_append_drop]
  unfold insT
  rw [e, List.mem_append, List.mem_cons]
  constructor
  · rintro (h | h | h)
    · exact .inr (.inl h)
    · exact .inl h
    · exact .inr (.inr h)
  · rintro (h | h | h)
    · exact .inr (.inl h)
    · exact .inl h
    · exact .inr (.inr h)
theorem insT_sorted {T : List Nat} {t : Nat} (h : T.Pairwise (· < ·)) (ht : t ∉ T) : (insT T t).Pairwise (· < ·) := by
  obtain ⟨h1, h2⟩ := count_parts t T h
  have h3 : (T.take (T.countP (· < t)) ++ T.drop (T.countP (· < t))).Pairwise (· < ·) := by rw [List.take_append_drop]; exact h
  rw [List.pairwise_append] at h3
  unfold insT
  rw [List.pairwise_append, List.pairwise_cons]
  have h4 : ∀ x ∈ T.drop (T.countP (· < t)), t < x := fun x hx => by
    have := h2 x hx
    have hne : x ≠ t := fun e => ht (e ▸ List.mem_of_mem_drop hx)
    omega
  refine ⟨h3.1, ⟨h4, h3.2.1⟩, fun a ha b hb => ?_⟩
  rcases List.mem_cons.1 hb with rfl | hb
  · exact h1 a ha
  · exact h3.2.2 a ha b hb
theorem PQ.add {Q : Nat → List Q4} {T : List Nat} {nm lo M n : Nat} (h : PQ Q T nm lo M n) {t : Nat} (ht : lo ≤ t) (hM : t ≤ M) {q : Q4} (hq : HitOk n t q) : PQ (updQ Q t (Q t ++ [q])) (if Q t = [] then insT T t else T) (nm + 1) lo M n := by
  have hmem : ∀ x, x ∈ (if Q t = [] then insT T t else T) ↔ x = t ∨ x ∈ T := by
    intro x
    split
    · exact mem_insT T t x
    · rename_i hn
      constructor
      · exact .inr
      · rintro (rfl | hx)
        · exact (h.mem x ht).2 hn
        · exact hx
  refine ⟨?_, fun s hs => ?_, fun s hs => ?_, fun s hs p hp => ?_, fun s hs => ?_, ?_, fun s hs => ?_⟩
  · split
    · rename_i hn
      exact insT_sorted h.srt (fun hx => (h.mem t ht).1 hx hn)
    · exact h.srt
  · rw [hmem]
    unfold updQ
    by_cases e : s = t
    · subst e
      simp
    · rw [if_neg e]
      constructor
      · rintro (h1 | h1)
        · exact absurd h1 e
        · exact (h.mem s hs).1 h1
      · exact fun h1 => .inr ((h.mem s hs).2 h1)
  · rcases (hmem s).1 hs with rfl | h1
    · exact ht
    · exact h.low s h1
  · unfold updQ at hp
    by_cases e : s = t
    · subst e
      rw [if_pos rfl] at hp
      rcases List.mem_append.1 hp with hp | hp
      · exact h.frm s hs p hp
      · rw [List.mem_singleton] at hp
        subst hp
        exact hq
    · rw [if_neg e] at hp
      exact h.frm s hs p hp
  · rcases (hmem s).1 hs with rfl | h1
    · exact hM
    · exact h.top s h1
  · have := h.len
    split
    · have e : (insT T t).length = T.length + 1 := by
        have : T.countP (· < t) ≤ T.length := List.countP_le_length
        unfold insT
        rw [List.length_append, List.length_take, List.length_cons, List.length_drop]
        omega
      omega
    · omega
  · have := h.qln s hs
    unfold updQ
    split
    · rename_i e
      subst e
      rw [List.length_append]
      simp
      exact this
    · omega
theorem PQ.mono {Q : Nat → List Q4} {T : List Nat} {nm nm' lo M M' n : Nat} (h : PQ Q T nm lo M n) (h1 : nm ≤ nm') (h2 : M ≤ M') : PQ Q T nm' lo M' n :=
  ⟨h.srt, h.mem, h.low, h.frm, fun t ht => Nat.le_trans (h.top t ht) h2, Nat.le_trans h.len h1, fun t ht => Nat.le_trans (h.qln t ht) h1⟩
theorem PQ.head {Q : Nat → List Q4} {T : List Nat} {nm lo M n t : Nat} (h : PQ Q (t :: T) nm lo M n) (ys : List Q4) : PQ (updQ Q t ys) T nm (t + 1) M n := by
  have hs := h.srt
  rw [List.pairwise_cons] at hs
  have hlt := h.low t (List.mem_cons_self)
  have hQ : ∀ s, t + 1 ≤ s → updQ Q t ys s = Q s := fun s hs => by unfold updQ; rw [if_neg (by omega)]
  refine ⟨hs.2, fun s hl => ?_, fun s hx => hs.1 s hx, fun s hl => ?_, fun s hx => h.top s (List.mem_cons_of_mem _ hx), ?_, fun s hl => ?_⟩
  · rw [hQ s hl, ← h.mem s (by omega), List.mem_cons]
    constructor
    · exact .inr
    · rintro (e | h1)
      · omega
      · exact h1
  · rw [hQ s hl]; exact h.frm s (by omega)
  · have := h.len
    simp only [List.length_cons] at this
    omega
  · rw [hQ s hl]; exact h.qln s (by omega)
theorem PQ.nil {M n : Nat} : PQ (fun _ => []) [] 0 0 M n :=
  ⟨List.Pairwise.nil, fun t _ => by simp, fun t ht => absurd ht List.not_mem_nil, fun t _ h hh => absurd hh List.not_mem_nil, fun t ht => absurd ht List.not_mem_nil, by simp, fun t _ => by simp⟩
/-- What waits, from a tick on. -/
def PdO (Q : Nat → List Q4) (lo t p s : Nat) : Prop := lo ≤ t ∧ ∃ d : Int, (⟨t, p, s, d⟩ : Q4) ∈ Q t
/-- .. within a tick: of its own row what is left. -/
def PdN (ys : List Q4) (k t : Nat) (Q : Nat → List Q4) (t' p s : Nat) : Prop := (t' = t ∧ ∃ (j : Nat) (d : Int), k ≤ j ∧ ys[j]? = some ⟨t, p, s, d⟩) ∨ PdO Q (t + 1) t' p s
theorem Wait.same {B : Bo} {P : Nat → Nat → Nat} {D : Nat → Bool} {E : Nat → Nat} {Pd Pd' : Nat → Nat → Nat → Prop} (h : Wait B P D E Pd) (e : ∀ t p s, Pd t p s ↔ Pd' t p s) : Wait B P D E Pd' := by
  have : Pd = Pd' := by funext t p s; exact propext (e t p s)
  exact this ▸ h
/-- The pushes that a run begins with. -/
structure Psh (list : List Q4) (P : Nat → Nat → Nat) (n M : Nat) : Prop where
  ok : ∀ h ∈ list, ∃ t : Nat, t ≤ M ∧ HitOk n t h
  le : ∀ (t p s : Nat) (d : Int), (⟨t, p, s, d⟩ : Q4) ∈ list → P p s ≤ 4 * t + s
  has : ∀ p s : Nat, s < 4 → P p s < big → ∃ (t : Nat) (d : Int), (⟨t, p, s, d⟩ : Q4) ∈ list ∧ P p s = 4 * t + s
  top : ∀ p s, P p s ≤ big
theorem hitK_big {B : Bo} {P : Nat → Nat → Nat} (hP : ∀ i s, P i s ≤ big) (y k : Nat) : hitK B P (fun _ => big) y k = if B.can y k = true then P y k else big := by
  unfold hitK
  by_cases hc : B.can y k = true
  · rw [if_pos hc, if_pos hc]
    cases B.near y k with
    | none => exact Nat.min_eq_left (hP _ _)
    | some q =>
      show min _ (gK B q (opp k) k big) = _
      rw [gK_big]
      exact Nat.min_eq_left (hP _ _)
  · rw [if_neg hc, if_neg hc]
theorem wait_start {B : Bo} {P : Nat → Nat → Nat} {list : List Q4} {M : Nat} (hP : Psh list P B.n M) (hM : M ≤ 100000) {Q : Nat → List Q4} (hQ : ∀ (t : Nat) h, h ∈ Q t ↔ h ∈ list ∧ h.a = (t : Int)) :
    Wait B P (fun _ => false) (fallF B P (fun _ => big)) (PdO Q 0) := by
  have hb2 : big = 1099511627776 := rfl
  refine ⟨fnd_start (fun y => rfl), fun t p s hx => ?_, fun y _ hy => ?_⟩
  · obtain ⟨_, d, hd⟩ := hx
    have h1 := ((hQ t _).1 hd).1
    obtain ⟨t2, ht2, h2, ⟨p2, e2, hp2⟩, ⟨s2, e3, hs2⟩, _⟩ := hP.ok _ h1
    have et : t2 = t := by simp at h2; omega
    have ep : p2 = p := by simp at e2; omega
    have es : s2 = s := by simp at e3; omega
    subst et ep es
    refine ⟨hp2, hs2, by omega, fun _ hc => ?_⟩
    have := hP.le _ _ _ _ h1
    unfold fallF
    rw [if_pos hp2]
    refine Nat.le_trans (best4_le (k := s2) hs2) ?_
    rw [hitK_big hP.top, if_pos hc]
    exact this
  · unfold fallF at hy ⊢
    by_cases hn : y < B.n
    · rw [if_pos hn] at hy ⊢
      obtain ⟨k, hk, e⟩ := best4_ex (hitK B P (fun _ => big) y)
      rw [e] at hy ⊢
      rw [hitK_big hP.top] at hy ⊢
      by_cases hc : B.can y k = true
      · rw [if_pos hc] at hy ⊢
        obtain ⟨t, d, h1, h2⟩ := hP.has y k hk hy
        have e1 : P y k / 4 = t := by omega
        have e2 : P y k % 4 = k := by omega
        rw [e1, e2]
        exact ⟨⟨Nat.zero_le _, d, (hQ t _).2 ⟨h1, rfl⟩⟩, hc⟩
      · rw [if_neg hc] at hy; omega
    · rw [if_neg hn] at hy; omega
theorem wait_open {B : Bo} {P : Nat → Nat → Nat} {D : Nat → Bool} {E : Nat → Nat} {Q : Nat → List Q4} {T : List Nat} {nm lo M t : Nat} (h : Wait B P D E (PdO Q lo)) (hq : PQ Q (t :: T) nm lo M B.n) {ys : List Q4} (hp : ys.Perm (Q t)) : Wait B P D E (PdN ys 0 t (updQ Q t ys)) := by
  have hlo := hq.low t List.mem_cons_self
  have hs := hq.srt
  rw [List.pairwise_cons] at hs
  refine h.same fun t' p s => ?_
  unfold PdO PdN PdO
  have hup : ∀ s, t + 1 ≤ s → updQ Q t ys s = Q s := fun s hs => by unfold updQ; rw [if_neg (by omega)]
  constructor
  · rintro ⟨h1, d, hd⟩
    by_cases e : t' = t
    · subst e
      have := hp.mem_iff.2 hd
      obtain ⟨j, hj⟩ := List.mem_iff_getElem?.1 this
      exact .inl ⟨rfl, j, d, Nat.zero_le _, hj⟩
    · have hm := (hq.mem t' h1).2 (fun e2 => by rw [e2] at hd; cases hd)
      rcases List.mem_cons.1 hm with e2 | hm
      · exact absurd e2 e
      · have := hs.1 t' hm
        exact .inr ⟨by omega, d, by rw [hup t' (by omega)]; exact hd⟩
  · rintro (⟨rfl, j, d, _, hj⟩ | ⟨h1, d, hd⟩)
    · exact ⟨hlo, d, hp.mem_iff.1 (List.mem_of_getElem? hj)⟩
    · rw [hup t' h1] at hd
      exact ⟨by omega, d, hd⟩
theorem wait_shut {B : Bo} {P : Nat → Nat → Nat} {D : Nat → Bool} {E : Nat → Nat} {Q : Nat → List Q4} {t : Nat} {ys : List Q4} (h : Wait B P D E (PdN ys ys.length t Q)) : Wait B P D E (PdO Q (t + 1)) := by
  refine h.same fun t' p s => ?_
  unfold PdN
  constructor
  · rintro (⟨_, j, d, h1, h2⟩ | h1)
    · have := (List.getElem?_eq_some_iff.1 h2).1
      omega
    · exact h1
  · exact .inr
theorem wait_skip {B : Bo} {P : Nat → Nat → Nat} {D : Nat → Bool} {E : Nat → Nat} {Q : Nat → List Q4} {t k p s : Nat} {d : Int} {ys : List Q4} (h : Wait B P D E (PdN ys k t Q)) (hk : ys[k]? = some ⟨t, p, s, d⟩) (hps : D p = true ∨ B.can p s = false) : Wait B P D E (PdN ys (k + 1) t Q) := by
  refine h.skip (t := t) hps (fun t' p' s' hx => ?_) (fun t' p' s' hx hne => ?_)
  · rcases hx with ⟨h1, j, d', h2, h3⟩ | h1
    · exact .inl ⟨h1, j, d', by omega, h3⟩
    · exact .inr h1
  · rcases hx with ⟨rfl, j, d', h2, h3⟩ | h1
    · by_cases e : j = k
      · subst e
        rw [hk] at h3
        injection h3 with h3
        injection h3 with h4 h5 h6 h7
        exact absurd ⟨rfl, by omega, by omega⟩ hne
      · exact .inl ⟨rfl, j, d', by omega, h3⟩
    · exact .inr h1
/-- What a fall adds, side by side. -/
def Acc (B : Bo) (Q Q' : Nat → List Q4) (t p s sd : Nat) : Prop :=
  ∀ (t' : Nat) (h : Q4), t + 1 ≤ t' → (h ∈ Q' t' ↔ h ∈ Q t' ∨ ∃ e k : Nat, e < sd ∧ B.near p e = some k ∧ B.hit p s e = true ∧ t' = t + B.d p ∧ h = ⟨t', k, (opp e : Nat), p⟩)
theorem Acc.zero {B : Bo} {Q : Nat → List Q4} {t p s : Nat} : Acc B Q Q t p s 0 := by
  intro t' h _
  constructor
  · exact .inl
  · rintro (h1 | ⟨e, k, he, _⟩)
    · exact h1
    · omega
theorem Acc.none {B : Bo} {Q Q' : Nat → List Q4} {t p s sd : Nat} (h : Acc B Q Q' t p s sd) (hn : B.near p sd = none ∨ B.hit p s sd = false) : Acc B Q Q' t p s (sd + 1) := by
  intro t' q ht
  rw [h t' q ht]
  constructor
  · rintro (h1 | ⟨e, k, he, h2⟩)
    · exact .inl h1
    · exact .inr ⟨e, k, by omega, h2⟩
  · rintro (h1 | ⟨e, k, he, h2⟩)
    · exact .inl h1
    · by_cases e2 : e = sd
      · subst e2
        rcases hn with h3 | h3
        · rw [h3] at h2; cases h2.1
        · rw [h3] at h2; cases h2.2.1
      · exact .inr ⟨e, k, by omega, h2⟩
theorem Acc.add {B : Bo} {Q Q' : Nat → List Q4} {t p s sd k : Nat} (h : Acc B Q Q' t p s sd) (hn : B.near p sd = some k) (hh : B.hit p s sd = true) {t2 : Nat} (ht2 : t2 = t + B.d p) : Acc B Q (updQ Q' t2 (Q' t2 ++ [⟨t2, k, (opp sd : Nat), p⟩])) t p s (sd + 1) := by
  intro t' q ht
  have hex : (∃ e k' : Nat, e < sd + 1 ∧ B.near p e = some k' ∧ B.hit p s e = true ∧ t' = t + B.d p ∧ q = ⟨t', k', (opp e : Nat), p⟩) ↔ (∃ e k' : Nat, e < sd ∧ B.near p e = some k' ∧ B.hit p s e = true ∧ t' = t + B.d p ∧ q = ⟨t', k', (opp e : Nat), p⟩) ∨ (t' = t + B.d p ∧ q = ⟨t', k, (opp sd : Nat), p⟩) := by
    constructor
    · rintro ⟨e, k', he, h1, h2, h3, h4⟩
      by_cases e2 : e = sd
      · subst e2
        rw [hn] at h1
        injection h1 with h1
        subst h1
        exact .inr ⟨h3, h4⟩
      · exact .inl ⟨e, k', by omega, h1, h2, h3, h4⟩
    · rintro (⟨e, k', he, h1⟩ | ⟨h3, h4⟩)
      · exact ⟨e, k', by omega, h1⟩
      · exact ⟨sd, k, by omega, hn, hh, h3, h4⟩
  rw [hex]
  have h0 := h t' q ht
  unfold updQ
  by_cases e : t' = t2
  · rw [if_pos e, ← e, List.mem_append, List.mem_singleton, h0]
    have : t' = t + B.d p := by omega
    constructor
    · rintro ((h1 | h1) | h1)
      · exact .inl h1
      · exact .inr (.inl h1)
      · exact .inr (.inr ⟨this, h1⟩)
    · rintro (h1 | h1 | h1)
      · exact .inl (.inl h1)
      · exact .inl (.inr h1)
      · exact .inr h1.2
  · rw [if_neg e, h0]
    constructor
    · rintro (h1 | h1)
      · exact .inl h1
      · exact .inr (.inl h1)
    · rintro (h1 | h1 | h1)
      · exact .inl h1
      · exact .inr h1
      · omega
theorem Acc.congr {B : Bo} {Q Q' Q2 : Nat → List Q4} {t p s sd : Nat} (h : Acc B Q Q' t p s sd) (e : ∀ t', t + 1 ≤ t' → Q2 t' = Q' t') : Acc B Q Q2 t p s sd := by
  intro t' q ht
  rw [e t' ht]
  exact h t' q ht
theorem wait_fall {B : Bo} (ok : B.Ok) {P : Nat → Nat → Nat} (hP : ∀ i s, P i s ≤ big) {D : Nat → Bool} {E : Nat → Nat} {Q Q' : Nat → List Q4} {t k p s : Nat} {d : Int} {ys : List Q4} (h : Wait B P D E (PdN ys k t Q)) (hk : ys[k]? = some ⟨t, p, s, d⟩)
    (hord : ∀ (i j : Nat) (p q : Q4), i < j → ys[i]? = some p → ys[j]? = some q → ¬ ltQ q p) (hd : D p = false) (hc : B.can p s = true) (ht : t ≤ 100000) (hacc : Acc B Q Q' t p s 4) :
    E p = 4 * t + s ∧ Wait B P (dnU D p) (fun y => min (E y) (leadK B p (E p) y)) (PdN ys (k + 1) t Q') := by
  have hb2 : big = 1099511627776 := rfl
  have hd9 := ok.d1 p
  have hp : PdN ys k t Q t p s := .inl ⟨rfl, k, d, Nat.le_refl _, hk⟩
  refine h.fall ok hP hp hd hc (fun t' p' s' hx => ?_) (fun s' hx => ?_) (by omega) (fun t' p' s' hx => ?_) (fun t' p' s' hx hne => ?_) (fun sd q hsd hn hh => ?_)
  · rcases hx with ⟨h1, _⟩ | ⟨h1, _⟩ <;> omega
  · rcases hx with ⟨_, j, d', h2, h3⟩ | ⟨h1, _⟩
    · by_cases e : j = k
      · subst e
        rw [hk] at h3
        injection h3 with h3
        injection h3 with h4 h5 h6 h7
        omega
      · have := hord k j _ _ (by omega) hk h3
        unfold ltQ at this
        dsimp only at this
        omega
    · omega
  · rcases hx with ⟨h1, j, d', h2, h3⟩ | ⟨h1, d', h2⟩
    · exact .inl (.inl ⟨h1, j, d', by omega, h3⟩)
    · rcases (hacc t' _ h1).1 h2 with h3 | ⟨e, q, he, h4, h5, h6, h7⟩
      · exact .inl (.inr ⟨h1, d', h3⟩)
      · injection h7 with h8 h9 h10 h11
        have e1 : p' = q := by omega
        have e2 : s' = opp e := by omega
        subst e1 e2
        exact .inr ⟨e, he, h4, h5, h6, rfl⟩
  · rcases hx with ⟨rfl, j, d', h2, h3⟩ | ⟨h1, d', h2⟩
    · by_cases e : j = k
      · subst e
        rw [hk] at h3
        injection h3 with h3
        injection h3 with h4 h5 h6 h7
        exact absurd ⟨rfl, by omega, by omega⟩ hne
      · exact .inl ⟨rfl, j, d', by omega, h3⟩
    · exact .inr ⟨h1, d', (hacc t' _ h1).2 (.inl h2)⟩
  · exact .inr ⟨by omega, p, (hacc (t + B.d p) _ (by omega)).2 (.inr ⟨sd, q, hsd, hn, hh, rfl, rfl⟩)⟩
theorem wait_end {B : Bo} (ok : B.Ok) {P : Nat → Nat → Nat} (hP : ∀ i s, P i s ≤ big) {D : Nat → Bool} {E : Nat → Nat} {Q : Nat → List Q4} {nm lo M : Nat} (h : Wait B P D E (PdO Q lo)) (hq : PQ Q [] nm lo M B.n) : ∀ y, (if D y = true then E y else big) = Fal B P y := by
  have hT := fall_tk ok hP
  have hno := h.fin (fun t p s hx => by
    obtain ⟨h1, d, h2⟩ := hx
    have : Q t ≠ [] := fun e => by rw [e] at h2; cases h2
    exact absurd ((hq.mem t h1).2 this) List.not_mem_nil)
  have hE := h.fnd.done hT hno
  intro y
  unfold Fal
  rw [← hE y]
  split
  · rfl
  · rename_i hy
    have h1 := hno y (by simpa using hy)
    have h2 : E y ≤ big := by rw [hE y]; exact hT.fix_le y
    omega
theorem FaA.same {w w1 : World} {g n : Nat} {E : Nat → Nat} (h : FaA w g n E) (hs : w.heap.size ≤ w1.heap.size) (e : w1.heap[g]? = w.heap[g]?) : FaA w1 g n E :=
  ⟨Nat.lt_of_lt_of_le h.lt hs, fun i hi => (World.cell?_of_block (a := ⟨g, _, none⟩) e).trans (h.c0 i hi), fun i hi => (World.cell?_of_block (a := ⟨g, _, none⟩) e).trans (h.c1 i hi), fun i hi => by obtain ⟨b, hb⟩ := h.c2 i hi; exact ⟨b, (World.cell?_of_block (a := ⟨g, _, none⟩) e).trans hb⟩⟩
theorem Fz.same {w w1 : World} {g : Nat} (h : Fz w g) (e : w1.heap[g]? = w.heap[g]?) : Fz w1 g := fun j => (World.frozen?_of_block (a := ⟨g, j, none⟩) e).trans (h j)
/-- The row of a tick is turned in place. -/
theorem Que.turned {w w2 : World} {q0 lb tb mb nm : Nat} {H : Nat → Value} {Q : Nat → List Q4} {A : Option Addr} {c : Nat} {T : List Nat} (h : Que w q0 lb tb mb nm H Q A c T) {t : Nat} {ys : List Q4} (ho : w2.ownsRow q0 161 4 (H t) ys.length (ys.flatMap Q4.e64)) (hg : w.grownBy w2 (H t).ownBlock) :
    Que w2 q0 lb tb mb nm H (updQ Q t ys) A c T ∧ QFr w w2 lb tb mb H A H A := by
  have keep : ∀ g, g < w.heap.size → (H t).ownBlock ≠ some g → w2.heap[g]? = w.heap[g]? := fun g hlt h2 => hg.block g hlt (fun e => h2 e.symm)
  have ltb := (h.lt (.inr (.inl rfl) : QB lb tb mb H A tb)).1
  have llb := (h.lt (.inl rfl : QB lb tb mb H A lb)).1
  have lmb := h.mp.lt
  have lta : ∀ a, A = some a → a.block < w.heap.size := fun a ha => (h.lt (.inr (.inr (.inr (.inl ⟨a, ha, rfl⟩)))) : _ ∧ _).1
  refine ⟨⟨?_, ?_, ?_, ?_, ?_, fun s => ?_, h.dis, h.far, h.sep, h.sepA⟩, ⟨hg.os, hg.tape, hg.output, hg.size, fun g hlt hq => keep g hlt (fun e => hq (.inr (.inr (.inr (.inr ⟨t, e⟩))))), fun g hq => .inl hq⟩⟩
  · exact (World.cell?_of_block (a := ⟨lb, 0, none⟩) (keep lb llb (fun e => (h.far t lb e).1 rfl))).trans h.b0
  · exact (World.cell?_of_block (a := ⟨tb, 0, none⟩) (keep tb ltb (fun e => (h.far t tb e).2.1 rfl))).trans h.b1
  · exact fun j => (World.frozen?_of_block (a := ⟨tb, j, none⟩) (keep tb ltb (fun e => (h.far t tb e).2.1 rfl))).trans (h.zt j)
  · exact h.mp.same (keep mb lmb (fun e => (h.far t mb e).2.2.1 rfl))
  · exact h.tk.kept hg.size (fun a ha => keep _ (lta a ha) (fun e => (h.far t _ e).2.2.2 a ha rfl))
  · unfold updQ
    by_cases e : s = t
    · subst e
      rw [if_pos rfl]
      exact ho
    · rw [if_neg e]
      exact own_same (h.rows s) (fun g hs => keep g (h.lt (.inr (.inr (.inr (.inr ⟨s, hs⟩)))) : _ ∧ _).1 (fun e2 => h.dis s t e g hs e2))
/-- What a run holds. -/
structure RunP (w wr : World) (n og q0 lb tb mb nm : Nat) (H : Nat → Value) (Q : Nat → List Q4) (A : Option Addr) (c : Nat) (T : List Nat) (F : Nat → Nat) : Prop where
  below : Below w.heap.size w wr
  out : FaA wr og n F
  zo : Fz wr og
  que : Que wr q0 lb tb mb nm H Q A c T
  an : A ≠ none
  pos : w.heap.size ≤ og ∧ og < q0 ∧ q0 ≤ wr.heap.size
theorem RunP.step {w wr w1 : World} {n og q0 lb tb mb nm : Nat} {H : Nat → Value} {Q : Nat → List Q4} {A : Option Addr} {c : Nat} {T : List Nat} {F : Nat → Nat} (h : RunP w wr n og q0 lb tb mb nm H Q A c T F) (hb : Below wr.heap.size wr w1) : RunP w w1 n og q0 lb tb mb nm H Q A c T F :=
  ⟨below_of h.below h.below.size hb, h.out.below hb h.out.lt, h.zo.below hb h.out.lt, h.que.below hb, h.an, h.pos.1, h.pos.2.1, Nat.le_trans h.pos.2.2 hb.size⟩
theorem QFr.under {w0 w w1 : World} {B q0 lb tb mb nm : Nat} {H H' : Nat → Value} {Q : Nat → List Q4} {A A' : Option Addr} {c : Nat} {T : List Nat} (h : QFr w w1 lb tb mb H A H' A') (hq : Que w q0 lb tb mb nm H Q A c T) (hb : Below B w0 w) (hB : B ≤ q0) (hs : B ≤ w.heap.size) : Below B w0 w1 :=
  ⟨h.os.trans hb.os, h.tape.trans hb.tape, h.output.trans hb.output, Nat.le_trans hb.size h.size, fun g hg => (h.block g (by omega) (fun hx => by have := (hq.lt hx).2; omega)).trans (hb.block g hg)⟩
theorem RunP.moved {w wr w1 : World} {n og q0 lb tb mb nm nm' : Nat} {H H' : Nat → Value} {Q Q' : Nat → List Q4} {A A' : Option Addr} {c c' : Nat} {T T' : List Nat} {F : Nat → Nat} (h : RunP w wr n og q0 lb tb mb nm H Q A c T F) (hf : QFr wr w1 lb tb mb H A H' A') (hq : Que w1 q0 lb tb mb nm' H' Q' A' c' T') (ha : A' ≠ none) : RunP w w1 n og q0 lb tb mb nm' H' Q' A' c' T' F := by
  have ho := hf.block og (by have := h.pos; omega) (fun hx => by have := (h.que.lt hx).2; have := h.pos; omega)
  exact ⟨hf.under h.que h.below (by have := h.pos; omega) h.below.size, h.out.same hf.size ho, h.zo.same ho, hq, ha, h.pos.1, h.pos.2.1, Nat.le_trans h.pos.2.2 hf.size⟩
theorem RunP.setO {w wr : World} {n og q0 lb tb mb nm : Nat} {H : Nat → Value} {Q : Nat → List Q4} {A : Option Addr} {c : Nat} {T : List Nat} {F : Nat → Nat} (h : RunP w wr n og q0 lb tb mb nm H Q A c T F) {i : Nat} (hi : i < n) (v : Nat) (b : Int) : RunP w (set3 wr og i v b) n og q0 lb tb mb nm H Q A c T (upd F i v) := by
  have G := set3_grown wr og i v b
  refine ⟨h.below.grown G h.below.size (fun k hk => by cases hk; exact h.pos.1), h.out.set hi v b, set3_fz h.zo, h.que.same G.size (fun g hg => G.block g (h.que.lt hg).1 (fun e => by have := (h.que.lt hg).2; have := h.pos; cases e; omega)), h.an, h.pos.1, h.pos.2.1, Nat.le_trans h.pos.2.2 G.size⟩
theorem RunP.congr {w wr : World} {n og q0 lb tb mb nm : Nat} {H : Nat → Value} {Q : Nat → List Q4} {A : Option Addr} {c : Nat} {T : List Nat} {F F' : Nat → Nat} (h : RunP w wr n og q0 lb tb mb nm H Q A c T F) (e : ∀ y, y < n → F y = F' y) : RunP w wr n og q0 lb tb mb nm H Q A c T F' :=
  ⟨h.below, h.out.congr e, h.zo, h.que, h.an, h.pos⟩
/-- A hit in a box of its own, beside the queue. -/
structure HBx (w : World) (lb tb mb : Nat) (H : Nat → Value) (A : Option Addr) (hb : Nat) (t p s : Nat) (d : Int) : Prop where
  nq : ¬ QB lb tb mb H A hb
  c0 : w.cell? ⟨hb, 0, none⟩ = some (.int .i64 (t : Int))
  c1 : w.cell? ⟨hb, 1, none⟩ = some (.int .i64 (p : Int))
  c2 : w.cell? ⟨hb, 2, none⟩ = some (.int .i64 (s : Int))
  c3 : w.cell? ⟨hb, 3, none⟩ = some (.int .i64 d)
theorem HBx.lt {w : World} {lb tb mb hb t p s : Nat} {d : Int} {H : Nat → Value} {A : Option Addr} (h : HBx w lb tb mb H A hb t p s d) : hb < w.heap.size := World.block_lt_of_cell? w ⟨hb, 0, none⟩ h.c0
theorem HBx.same {w w1 : World} {lb tb mb hb t p s : Nat} {d : Int} {H H' : Nat → Value} {A A' : Option Addr} (h : HBx w lb tb mb H A hb t p s d) (e : w1.heap[hb]? = w.heap[hb]?) (nq : ¬ QB lb tb mb H' A' hb) : HBx w1 lb tb mb H' A' hb t p s d :=
  ⟨nq, (World.cell?_of_block (a := ⟨hb, _, none⟩) e).trans h.c0, (World.cell?_of_block (a := ⟨hb, _, none⟩) e).trans h.c1, (World.cell?_of_block (a := ⟨hb, _, none⟩) e).trans h.c2, (World.cell?_of_block (a := ⟨hb, _, none⟩) e).trans h.c3⟩
theorem HBx.step {w w1 : World} {lb tb mb hb t p s : Nat} {d : Int} {H : Nat → Value} {A : Option Addr} (h : HBx w lb tb mb H A hb t p s d) (b : Below w.heap.size w w1) : HBx w1 lb tb mb H A hb t p s d := h.same (b.block hb h.lt) h.nq
theorem HBx.moved {w w1 : World} {lb tb mb hb t p s : Nat} {d : Int} {H H' : Nat → Value} {A A' : Option Addr} (h : HBx w lb tb mb H A hb t p s d) (f : QFr w w1 lb tb mb H A H' A') : HBx w1 lb tb mb H' A' hb t p s d :=
  h.same (f.block hb h.lt h.nq) (fun hx => (f.more hb hx).elim h.nq (fun h2 => by have := h.lt; omega))
/-- What a run reads of its stage, at piece p that is hit from side s. -/
structure RdR (w : World) (T : StgD) (p s bb bo hb ho pb po cb co : Nat) (mv cv dv : Int) : Prop where
  s0 : w.cell? ⟨T.sb, 0, none⟩ = some (.slice (some ⟨pb, po, none⟩) T.xs.length T.cp)
  s1 : w.cell? ⟨T.sb, 1, none⟩ = some (.slice (some ⟨cb, co, none⟩) T.xs.length T.cc)
  s2 : w.cell? ⟨T.sb, 2, none⟩ = some (.slice (some ⟨hb, ho, none⟩) T.xs.length T.hc)
  s3 : w.cell? ⟨T.sb, 3, none⟩ = some (.slice (some ⟨bb, bo, none⟩) T.xs.length T.bc)
  be : ∀ k, k < 4 → w.cell? ⟨bb, bo + p * 4 + k, none⟩ = some (.int .i64 (nearI T.xs p k))
  hc : w.cell? ⟨hb, ho + p * 4 + s, none⟩ = some (.int .u8 mv)
  pd : w.cell? ⟨pb, po + p * 5 + 4, none⟩ = some (.int .i8 dv)
  cc : w.cell? ⟨cb, co + p, none⟩ = some (.int .u8 cv)
theorem RdR.below {w w1 : World} {T : StgD} {p s bb bo hb ho pb po cb co : Nat} {mv cv dv : Int} (h : RdR w T p s bb bo hb ho pb po cb co mv cv dv) (b : Below w.heap.size w w1) : RdR w1 T p s bb bo hb ho pb po cb co mv cv dv :=
  ⟨cell_on b h.s0, cell_on b h.s1, cell_on b h.s2, cell_on b h.s3, fun k hk => cell_on b (h.be k hk), cell_on b h.hc, cell_on b h.pd, cell_on b h.cc⟩
theorem mx_in2 (k t s : Int) : 0 ≤ mx (hitsG k t s) ∧ mx (hitsG k t s) ≤ 255 := by
  have := hitsG_in k t s
  unfold mx
  split <;> omega
theorem rdr_of {w : World} {T : StgD} (hT : Stg w T) (hB : BrdOk T.xs) {p s : Nat} (hp : p < T.xs.length) (hs : s < 4) :
    ∃ bb bo hb ho pb po cb co mv cv dv, RdR w T p s bb bo hb ho pb po cb co mv cv dv ∧ (∀ t, t < 4 → (boOf T.xs).can p s = true → (boOf T.xs).hit p s t = bitI mv t) ∧ (0 ≤ mv ∧ mv ≤ 255) ∧ bitI cv s = (boOf T.xs).can p s ∧ (0 ≤ cv ∧ cv ≤ 255) ∧ (1 ≤ dv ∧ dv ≤ 9) ∧ ((boOf T.xs).d p : Int) = dv := by
  obtain ⟨pb, po, e1, _, cp⟩ := hT.px.cells (by omega)
  obtain ⟨cb, co, e4, _, cc⟩ := hT.cn.cells (by simp [canL]; omega)
  obtain ⟨hb, ho, e2, _, ch⟩ := hT.ht.cells (by simp [hitL]; omega)
  obtain ⟨bb, bo, e3, _, cb'⟩ := hT.bs.cells (by rw [besL_length]; omega)
  have s0 := hT.c0
  have s1 := hT.c1
  have s2 := hT.c2
  have s3 := hT.c3
  rw [e1] at s0
  rw [e4] at s1
  rw [e2] at s2
  rw [e3] at s3
  have ep : T.xs[p]? = some T.xs[p] := List.getElem?_eq_getElem hp
  have okp := (hB.pc _ (List.getElem_mem hp)).2.2.2.2
  have eh : (hitL T.xs)[p]? = some (hitQ T.xs[p]) := by simp [hitL, List.getElem?_map, ep]
  have ec : (canL T.xs)[p]? = some (sBits (canP T.xs[p])) := by simp [canL, List.getElem?_map, ep]
  have hh : (hitQ T.xs[p]).e8[s]? = some (.int .u8 (mx (hitsG T.xs[p].k T.xs[p].t s))) := by rcases four_of hs with rfl | rfl | rfl | rfl <;> rfl
  have hbe : ∀ k, k < 4 → (besQ T.xs p).e64[k]? = some (.int .i64 (nearI T.xs p k)) := fun k h => by rcases four_of h with rfl | rfl | rfl | rfl <;> rfl
  have hm := mx_in2 T.xs[p].k T.xs[p].t s
  have hcn := bo_can ep s
  have hcb := sBits_in (canP T.xs[p])
  refine ⟨bb, bo, hb, ho, pb, po, cb, co, mx (hitsG T.xs[p].k T.xs[p].t s), sBits (canP T.xs[p]), T.xs[p].d, ⟨s0, s1, s2, s3, fun k h => ?_, ?_, ?_, ?_⟩, fun t ht hc => ?_, by omega, ?_, by omega, okp, ?_⟩
  · have := cb' p _ (besL_get _ _ p hp) k _ (hbe k h)
    rwa [← Nat.add_assoc] at this
  · have := ch p _ eh s _ hh
    rwa [← Nat.add_assoc] at this
  · have := cp p _ ep 4 _ rfl
    rwa [← Nat.add_assoc] at this
  · have := cc p _ ec 0 _ rfl
    rwa [Nat.mul_one, Nat.add_zero] at this
  · rw [bo_hit ep]
    rw [hcn, decide_eq_true_iff] at hc
    rw [decide_eq_true hc, Bool.true_and]
    unfold mx
    rw [if_pos hc]
  · rw [sBits_has _ hs, hcn]; rfl
  · rw [bo_d ep]; omega
/-! ### The loops -/
def RunA (w wr : World) (n : Nat) (list : List Q4) (og q0 lb tb mb k : Nat) : Prop :=
  ∃ nm H Q A c T, RunP w wr n og q0 lb tb mb nm H Q A c T (fun _ => big) ∧ PQ Q T nm 0 1000 n ∧ nm ≤ k ∧ ∀ (t : Nat) h, h ∈ Q t ↔ h ∈ list.take k ∧ h.a = (t : Int)
def RunO (w wr : World) (xs : List Pc) (P : Nat → Nat → Nat) (og q0 lb tb mb L0 : Nat) : Prop :=
  ∃ lo D E nm H Q A c T, RunP w wr xs.length og q0 lb tb mb nm H Q A c T (fun y => if D y = true then E y else big) ∧ PQ Q T nm lo (1000 + 9 * cntB D xs.length) xs.length ∧ nm ≤ L0 + 4 * cntB D xs.length ∧ Wait (boOf xs) P D E (PdO Q lo)
def RunN (w wr : World) (xs : List Pc) (P : Nat → Nat → Nat) (og q0 lb tb mb L0 t : Nat) (Ht : Value) (ys : List Q4) (k : Nat) : Prop :=
  ∃ D E nm H Q A c T, RunP w wr xs.length og q0 lb tb mb nm H Q A c T (fun y => if D y = true then E y else big) ∧ PQ Q T nm (t + 1) (1000 + 9 * cntB D xs.length) xs.length ∧ nm ≤ L0 + 4 * cntB D xs.length ∧ Wait (boOf xs) P D E (PdN ys k t Q) ∧ H t = Ht ∧ Q t = ys ∧ t ≤ 1000 + 9 * cntB D xs.length
def RunM (w wr : World) (xs : List Pc) (og q0 lb tb mb nm0 M t : Nat) (Ht : Value) (ys : List Q4) (F : Nat → Nat) (Q0 : Nat → List Q4) (hb p s : Nat) (d : Int) (sd : Nat) : Prop :=
  ∃ nm H Q A c T, RunP w wr xs.length og q0 lb tb mb nm H Q A c T F ∧ PQ Q T nm (t + 1) M xs.length ∧ nm ≤ nm0 + sd ∧ Acc (boOf xs) Q0 Q t p s sd ∧ H t = Ht ∧ Q t = ys ∧ HBx wr lb tb mb H A hb t p s d
def headM (w : World) (tb : Nat) : Nat :=
  match w.cell? ⟨tb, 0, none⟩ with
  | some (.slice (some a) (m + 1) _) => (match w.cell? a with | some (.int _ t) => 10001 - t.toNat | _ => 0)
  | _ => 0
theorem headM_nil {w : World} {q0 lb tb mb nm : Nat} {H : Nat → Value} {Q : Nat → List Q4} {A : Option Addr} {c : Nat} (h : Que w q0 lb tb mb nm H Q A c []) : headM w tb = 0 := by
  unfold headM
  rw [h.b1]
  cases A <;> rfl
theorem que_head {w : World} {q0 lb tb mb nm : Nat} {H : Nat → Value} {Q : Nat → List Q4} {A : Option Addr} {c t : Nat} {T : List Nat} (h : Que w q0 lb tb mb nm H Q A c (t :: T)) : ∃ g o, A = some ⟨g, o, none⟩ ∧ w.cell? ⟨g, o, none⟩ = some (.int .i64 (t : Nat)) ∧ T.length + 1 ≤ c ∧ q0 ≤ g ∧ g < w.heap.size := by
  have hl := h.tk.le
  simp only [List.length_cons] at hl
  rcases h.tk.form with h1 | ⟨g, o, e, h1, h2, _, _, h5⟩
  · omega
  · have := h5 0 t rfl
    rw [Nat.add_zero] at this
    exact ⟨g, o, e, this, hl, h1, h2⟩
theorem headM_cons {w : World} {q0 lb tb mb nm : Nat} {H : Nat → Value} {Q : Nat → List Q4} {A : Option Addr} {c t : Nat} {T : List Nat} (h : Que w q0 lb tb mb nm H Q A c (t :: T)) : headM w tb = 10001 - t := by
  obtain ⟨g, o, rfl, h2, _⟩ := que_head h
  unfold headM
  rw [h.b1]
  show (match w.cell? ⟨g, o, none⟩ with | some (.int _ t) => 10001 - t.toNat | _ => 0) = _
  rw [h2]
  show 10001 - (t : Int).toNat = _
  rw [Int.toNat_natCast]
theorem runO_measure {wr w1 : World} {q0 lb tb mb t nm : Nat} {H : Nat → Value} {Q : Nat → List Q4} {A : Option Addr} {c : Nat} {T : List Nat} (h : Que wr q0 lb tb mb nm H Q A c (t :: T)) (ht : t ≤ 5000) {nm1 : Nat} {H1 : Nat → Value} {Q1 : Nat → List Q4} {A1 : Option Addr} {c1 : Nat} {T1 : List Nat} (h1 : Que w1 q0 lb tb mb nm1 H1 Q1 A1 c1 T1) (hl : ∀ x ∈ T1, t + 1 ≤ x) : headM w1 tb < headM wr tb := by
  rw [headM_cons h]
  cases T1 with
  | nil => rw [headM_nil h1]; omega
  | cons a r =>
    rw [headM_cons h1]
    have := hl a List.mem_cons_self
    omega
theorem mem_add {Q : Nat → List Q4} {list : List Q4} {k t : Nat} {q : Q4} (hm : ∀ (t : Nat) h, h ∈ Q t ↔ h ∈ list.take k ∧ h.a = (t : Int)) (e : list[k]? = some q) (ha : q.a = (t : Int)) (t' : Nat) (h : Q4) : h ∈ updQ Q t (Q t ++ [q]) t' ↔ h ∈ list.take (k + 1) ∧ h.a = (t' : Int) := by
  rw [List.take_add_one, e]
  unfold updQ
  simp only [Option.toList, List.mem_append, List.mem_singleton]
  by_cases e2 : t' = t
  · subst e2
    rw [if_pos rfl]
    simp only [List.mem_append, List.mem_singleton, hm]
    constructor
    · rintro (h1 | h1)
      · exact ⟨.inl h1.1, h1.2⟩
      · exact ⟨.inr h1, by rw [h1]; exact ha⟩
    · rintro ⟨h1 | h1, h2⟩
      · exact .inl ⟨h1, h2⟩
      · exact .inr h1
  · rw [if_neg e2, hm]
    constructor
    · rintro ⟨h1, h2⟩
      exact ⟨.inl h1, h2⟩
    · rintro ⟨h1 | h1, h2⟩
      · exact ⟨h1, h2⟩
      · rw [h1, ha] at h2; omega
theorem own_addr2 {w : World} {base : Nat} {e : TypeId} {size n c : Nat} {A : Option Addr} {xs : List Value} (h : w.ownsRow base e size (.slice A n c) n xs) (hn : 0 < n) : ∃ g, A = some ⟨g, 0, none⟩ := by
  obtain ⟨g, cap', hv, _, _⟩ := h.form hn
  injection hv with hv1
  exact ⟨g, hv1⟩
/-- ticks[1:] is stored. -/
theorem que_cut {w w1 : World} {q0 lb tb mb nm : Nat} {H : Nat → Value} {Q : Nat → List Q4} {g o c t : Nat} {T : List Nat} (h : Que w q0 lb tb mb nm H Q (some ⟨g, o, none⟩) c (t :: T)) (hb : Below w.heap.size w w1) (hc : c ≠ 1) :
    Que (w1.setCell ⟨tb, 0, none⟩ (.slice (some ⟨g, o + 1, none⟩) T.length (c - 1))) q0 lb tb mb nm H Q (some ⟨g, o + 1, none⟩) (c - 1) T ∧ QFr w (w1.setCell ⟨tb, 0, none⟩ (.slice (some ⟨g, o + 1, none⟩) T.length (c - 1))) lb tb mb H (some ⟨g, o, none⟩) H (some ⟨g, o + 1, none⟩) := by
  have := (h.below hb).tick (A' := some ⟨g, o + 1, none⟩) (c' := c - 1) (T' := T) ((h.below hb).tk.tail) ⟨rfl, rfl, rfl, Nat.le_refl _, fun _ _ _ => rfl⟩ (fun a' ha => .inl ⟨_, rfl, by cases ha; rfl⟩)
  exact ⟨this.1, (QFr.of_below hb _ _ _ _ _).trans this.2⟩
theorem que_cut1 {w w1 : World} {q0 lb tb mb nm : Nat} {H : Nat → Value} {Q : Nat → List Q4} {g o t : Nat} {T : List Nat} (h : Que w q0 lb tb mb nm H Q (some ⟨g, o, none⟩) 1 (t :: T)) (hb : Below w.heap.size w w1) :
    Que (w1.setCell ⟨tb, 0, none⟩ (.slice (some ⟨g, o, none⟩) T.length 0)) q0 lb tb mb nm H Q (some ⟨g, o, none⟩) 0 T ∧ QFr w (w1.setCell ⟨tb, 0, none⟩ (.slice (some ⟨g, o, none⟩) T.length 0)) lb tb mb H (some ⟨g, o, none⟩) H (some ⟨g, o, none⟩) := by
  have hk := (h.below hb).tk
  have hl := hk.le
  simp only [List.length_cons] at hl
  have hT : T = [] := List.length_eq_zero_iff.1 (by omega)
  subst hT
  have h0 : TkR w1 q0 (some ⟨g, o, none⟩) 0 [] := by
    refine ⟨Nat.le_refl _, Nat.zero_le _, ?_⟩
    rcases hk.form with h1 | ⟨g2, o2, e, h1, h2, h3, h4, h5⟩
    · cases h1.1
    · cases e
      exact .inr ⟨g, o, rfl, h1, h2, h3, fun j hj => by omega, fun j t ht => by simp at ht⟩
  have := (h.below hb).tick (A' := some ⟨g, o, none⟩) (c' := 0) (T' := []) h0 ⟨rfl, rfl, rfl, Nat.le_refl _, fun _ _ _ => rfl⟩ (fun a' ha => .inl ⟨_, rfl, by cases ha; rfl⟩)
  exact ⟨this.1, (QFr.of_below hb _ _ _ _ _).trans this.2⟩
theorem hit_cells {w : World} {base g n cap : Nat} {e : TypeId} {ys : List Q4} (h : w.ownsRow base e 4 (.slice (some ⟨g, 0, none⟩) n cap) n (ys.flatMap Q4.e64)) {k : Nat} {q : Q4} (hk : ys[k]? = some q) :
    w.cell? ⟨g, k * 4, none⟩ = some (.int .i64 q.a) ∧ w.cell? ⟨g, k * 4 + 1, none⟩ = some (.int .i64 q.b) ∧ w.cell? ⟨g, k * 4 + 2, none⟩ = some (.int .i64 q.c) ∧ w.cell? ⟨g, k * 4 + 3, none⟩ = some (.int .i64 q.d) := by
  have hfl : ∀ l : List Q4, (l.flatMap Q4.e64).length = l.length * 4 := by
    intro l
    induction l with
    | nil => rfl
    | cons x r ih => rw [List.flatMap_cons, List.length_append, ih]; simp [Q4.e64]; omega
  have hl : ys.length = n := by have := h.1; rw [hfl] at this; omega
  subst hl
  have hlt := (List.getElem?_eq_some_iff.1 hk).1
  obtain ⟨b, o, e, _, hc⟩ := (SlA.of_own (enc := Q4.e64) (n := 4) (fun _ => rfl) h).cells (by omega)
  cases e
  have c0 := hc k q hk 0 _ rfl
  have c1 := hc k q hk 1 _ rfl
  have c2 := hc k q hk 2 _ rfl
  have c3 := hc k q hk 3 _ rfl
  rw [Nat.zero_add] at c0 c1 c2 c3
  exact ⟨c0, c1, c2, c3⟩
theorem hbx_made {w : World} {q0 lb tb mb nm t p s : Nat} {d : Int} {H : Nat → Value} {Q : Nat → List Q4} {A : Option Addr} {c : Nat} {T : List Nat} (h : Que w q0 lb tb mb nm H Q A c T) (e : TypeId) : HBx (w.alloc (.cells #[.int .i64 (t : Int), .int .i64 (p : Int), .int .i64 (s : Int), .int .i64 d] e)) lb tb mb H A w.heap.size t p s d :=
  ⟨fun hx => by have := (h.lt hx).1; omega, by simp [go_sem], by simp [go_sem], by simp [go_sem], by simp [go_sem]⟩
theorem runN_next {w wr : World} {xs : List Pc} {P : Nat → Nat → Nat} {og q0 lb tb mb L0 nm3 t hb p s k : Nat} {d : Int} {Ht : Value} {ys : List Q4} {D : Nat → Bool} {E : Nat → Nat} {Q : Nat → List Q4} (hB : BrdOk xs) (hP : ∀ i s, P i s ≤ big) (hW : Wait (boOf xs) P D E (PdN ys k t Q)) (hk : ys[k]? = some ⟨t, p, s, d⟩)
    (hord : ∀ (i j : Nat) (p q : Q4), i < j → ys[i]? = some p → ys[j]? = some q → ¬ ltQ q p) (hd : D p = false) (hc : (boOf xs).can p s = true) (hn : xs.length ≤ 200) (hp : p < xs.length) (hs : s < 4) (ht : t ≤ 1000 + 9 * cntB D xs.length) (hnm : nm3 ≤ L0 + 4 * cntB D xs.length)
    (h : RunM w wr xs og q0 lb tb mb nm3 (1000 + 9 * cntB D xs.length + 9) t Ht ys (upd (fun y => if D y = true then E y else big) p (4 * t + s)) Q hb p s d 4) : RunN w wr xs P og q0 lb tb mb L0 t Ht ys (k + 1) := by
  obtain ⟨nm, H, Q', A, c, T, h1, h2, h3, h4, h5, h6, h7⟩ := h
  have hcb := cntB_le D xs.length
  obtain ⟨he, hw⟩ := wait_fall (bo_ok hB) hP hW hk hord hd hc (by omega) h4
  have hb2 : big = 1099511627776 := rfl
  have hcn : cntB (dnU D p) xs.length = cntB D xs.length + 1 := cntB_add hd xs.length hp
  rw [← he] at h1
  refine ⟨dnU D p, _, nm, H, Q', A, c, T, h1.congr (fun y _ => run_row hW.fnd hd y (bo_ok hB) (by omega)), h2.mono (Nat.le_refl _) (by rw [hcn]; omega), by rw [hcn]; omega, hw, h5, h6, by rw [hcn]; omega⟩
theorem runM_none {w wr w1 : World} {xs : List Pc} {og q0 lb tb mb nm3 M t hb p s sd : Nat} {d : Int} {Ht : Value} {ys : List Q4} {F : Nat → Nat} {Q : Nat → List Q4} (h : RunM w wr xs og q0 lb tb mb nm3 M t Ht ys F Q hb p s d sd) (hb1 : Below wr.heap.size wr w1) (hn : (boOf xs).near p sd = none ∨ (boOf xs).hit p s sd = false) : RunM w w1 xs og q0 lb tb mb nm3 M t Ht ys F Q hb p s d (sd + 1) := by
  obtain ⟨nm, H, Q', A, c, T, h1, h2, h3, h4, h5, h6, h7⟩ := h
  exact ⟨nm, H, Q', A, c, T, h1.step hb1, h2, by omega, h4.none hn, h5, h6, h7.step hb1⟩
theorem cntB_none : ∀ n, cntB (fun _ => false) n = 0
  | 0 => rfl
  | n + 1 => by unfold cntB; rw [cntB_none n]; simp
theorem runO_start {w wr : World} {xs : List Pc} {P : Nat → Nat → Nat} {list : List Q4} {og q0 lb tb mb : Nat} (hP : Psh list P xs.length 1000) (h : RunA w wr xs.length list og q0 lb tb mb list.length) : RunO w wr xs P og q0 lb tb mb list.length := by
  obtain ⟨nm, H, Q, A, c, T, h1, h2, h3, h4⟩ := h
  refine ⟨0, fun _ => false, _, nm, H, Q, A, c, T, h1.congr (fun y _ => by simp), h2.mono (Nat.le_refl _) (by omega), by omega, wait_start (B := boOf xs) hP (by omega) (fun t h => by rw [h4 t h, List.take_length])⟩
theorem pq_sorted {Q : Nat → List Q4} {T : List Nat} {nm lo M n : Nat} (h : PQ Q T nm lo M n) : T.Pairwise (· ≤ ·) := h.srt.imp (fun h => Nat.le_of_lt h)
/-- One hit more. -/
theorem RunP.add {w wr w2 w3 : World} {n og q0 lb tb mb nm : Nat} {H : Nat → Value} {Q : Nat → List Q4} {A : Option Addr} {c : Nat} {T : List Nat} {F : Nat → Nat} (h : RunP w wr n og q0 lb tb mb nm H Q A c T F) (hb : Below wr.heap.size wr w2) {t : Nat} {b_ c_ d_ : Int} {e : Ending} (hp : AddP w2 q0 lb tb mb nm H Q A T t b_ c_ d_ e w3) :
    e = .returned (.tuple #[]) ∧ ∃ H' A' c', RunP w w3 n og q0 lb tb mb (nm + 1) H' (updQ Q t (Q t ++ [⟨t, b_, c_, d_⟩])) A' c' (if Q t = [] then insT T t else T) F ∧ QFr w2 w3 lb tb mb H A H' A' ∧ ∀ s, s ≠ t → H' s = H s := by
  obtain ⟨H', A', c', rfl, h1, h2, h3, h4⟩ := hp
  exact ⟨rfl, H', A', c', (h.step hb).moved h3 h2 h1, h3, h4⟩
theorem runM_add {w wr w1 w2 : World} {xs : List Pc} {og q0 lb tb mb nm nm3 M t hb p s sd k t2 : Nat} {d : Int} {Ht : Value} {ys : List Q4} {F : Nat → Nat} {Q Q' : Nat → List Q4} {H : Nat → Value} {A : Option Addr} {c : Nat} {T : List Nat}
    (h1 : RunP w wr xs.length og q0 lb tb mb nm H Q' A c T F) (h2 : PQ Q' T nm (t + 1) M xs.length) (h3 : nm ≤ nm3 + sd) (h4 : Acc (boOf xs) Q Q' t p s sd) (h5 : H t = Ht) (h6 : Q' t = ys) (h7 : HBx wr lb tb mb H A hb t p s d) (hb1 : Below wr.heap.size wr w1)
    (hn : (boOf xs).near p sd = some k) (hh : (boOf xs).hit p s sd = true) (hk : k < xs.length) (hp : p ≤ 1000) (ht2 : t2 = t + (boOf xs).d p) (hd : 1 ≤ (boOf xs).d p) (hM : t2 ≤ M) {e : Ending} (ha : AddP w1 q0 lb tb mb nm H Q' A T t2 k (opp sd : Nat) p e w2) :
    e = .returned (.tuple #[]) ∧ RunM w w2 xs og q0 lb tb mb nm3 M t Ht ys F Q hb p s d (sd + 1) := by
  obtain ⟨rfl, H', A', c', hR', hF', hH'⟩ := h1.add hb1 ha
  have hQ' : updQ Q' t2 (Q' t2 ++ [⟨t2, k, (opp sd : Nat), p⟩]) t = ys := by unfold updQ; rw [if_neg (by omega)]; exact h6
  exact ⟨rfl, nm + 1, H', _, A', c', _, hR', h2.add (by omega) hM ⟨rfl, ⟨k, rfl, hk⟩, ⟨opp sd, rfl, by unfold opp; omega⟩, by dsimp only; omega, by dsimp only; omega⟩, by omega, h4.add hn hh ht2, (hH' t (by omega)).trans h5, hQ', (h7.step hb1).moved hF'⟩
theorem que_start (w : World) : Que ((((w.alloc (Obj.map #[] 0)).alloc (Obj.cells #[.map (some w.heap.size)] 177)).alloc (Obj.cells #[] 3)).alloc (Obj.cells #[.slice (some ⟨w.heap.size + 1 + 1, 0, none⟩) 0 0] 136))
    w.heap.size (w.heap.size + 1) (w.heap.size + 1 + 1 + 1) w.heap.size 0 (fun _ => .slice none 0 0) (fun _ => []) (some ⟨w.heap.size + 1 + 1, 0, none⟩) 0 [] := by
  have hm := mapH_made w
  have b3 : Below (w.alloc (Obj.map #[] 0)).heap.size (w.alloc (Obj.map #[] 0)) ((((w.alloc (Obj.map #[] 0)).alloc (Obj.cells #[.map (some w.heap.size)] 177)).alloc (Obj.cells #[] 3)).alloc (Obj.cells #[.slice (some ⟨w.heap.size + 1 + 1, 0, none⟩) 0 0] 136)) :=
    (((Below.refl _ _).alloc (Nat.le_refl _) _).alloc (by simp) _).alloc (by (first | (simp; omega) | simp)) _
  refine ⟨by simp [go_sem], by simp [go_sem], fun j => by simp [go_sem], hm.same (b3.block _ hm.lt), ⟨Nat.le_refl _, by unfold maxLen; omega, .inr ⟨_, 0, rfl, by omega, by simp, fun j => by simp [go_sem], fun j hj => by omega, fun j t hj => by simp at hj⟩⟩, fun t => World.ownsRow_nil _ _ _ _, fun s t _ g h => by simp [Value.ownBlock] at h, fun t g h => by simp [Value.ownBlock] at h, by omega, fun a ha => by cases ha; dsimp only; omega⟩
end Go.Proofs.YthhfndifcdiomaaGreat
