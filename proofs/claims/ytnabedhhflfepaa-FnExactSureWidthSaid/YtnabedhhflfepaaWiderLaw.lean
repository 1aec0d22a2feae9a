/-
  Plain law of wider spans: the windows at rest grow with the spans; how far one may widen, found upwards and downwards.
  Conditions: none.
-/
import Derived.Test.YtnabedhhflfepaaWideLaw
import Derived.Test.YtnabedhhflfepaaRaces
import Derived.Test.YtnabedhhflfepaaAround
namespace Go.Proofs.Ytnabedhhflfepaa
open Go.RowKit
set_option linter.unusedSimpArgs false
set_option linter.unusedVariables false

theorem rd_stay {N : Net} (ok : N.Ok) {K : Nat} (h : rdSame N K = true) : ∀ j, rd N (K + 1 + j) = rd N (K + 1)
  | 0 => rfl
  | j + 1 => by
    have e : (rd N K).L = (rd N (K + 1)).L := rd_L_eq ok (by unfold rdSame at h; rw [Bool.and_eq_true] at h; exact h.2)
    show rdNext N (rd N (K + 1 + j)).L = rdNext N (rd N K).L
    rw [rd_stay ok h j, e]
def fin (N : Net) : Rd := rd N (rest N + 1)
theorem fin_at {N : Net} (ok : N.Ok) {M r : Nat} (hr : rest N = r) (h : r ≤ M) : rd N (M + 1) = fin N := by
  have h1 := (rest_is ok).1
  unfold fin
  rw [hr] at h1 ⊢
  have := rd_stay ok h1 (M - r)
  rw [show r + 1 + (M - r) = M + 1 by omega] at this
  exact this
theorem rd_wider3 {N N' : Net} (ok : N.Ok) (ok' : N'.Ok) (h : Wider N N') (M : Nat) : (∀ y, (rd N' (M + 1)).E y ≤ (rd N (M + 1)).E y) ∧ (∀ i s, (rd N (M + 1)).S i s = true → (rd N' (M + 1)).S i s = true) ∧ (∀ y, (rd N (M + 1)).L y ≤ (rd N' (M + 1)).L y) :=
  rdNext_wider ok ok' h (rd_wider ok ok' h M)
theorem fin_wider {N N' : Net} (ok : N.Ok) (ok' : N'.Ok) (h : Wider N N') : (∀ y, (fin N').E y ≤ (fin N).E y) ∧ (∀ i s, (fin N).S i s = true → (fin N').S i s = true) ∧ (∀ y, (fin N).L y ≤ (fin N').L y) := by
  obtain ⟨r, hr⟩ : ∃ r, rest N = r := ⟨_, rfl⟩
  obtain ⟨r', hr'⟩ : ∃ r, rest N' = r := ⟨_, rfl⟩
  have h1 := fin_at ok (M := max r r') hr (by omega)
  have h2 := fin_at ok' (M := max r r') hr' (by omega)
  rw [← h1, ← h2]
  exact rd_wider3 ok ok' h _
theorem winL_at (M : Nat → Nat → Bool) (E L : Nat → Nat) : ∀ n i, i < n → (winL M E L n)[i]? = some (winG M E L i)
  | 0, i, h => by omega
  | n + 1, i, h => by
    rw [winL]
    rcases Nat.lt_or_ge i n with h1 | h1
    · rw [List.getElem?_append_left (by rw [winL_length]; exact h1)]
      exact winL_at M E L n i h1
    · obtain rfl : i = n := by omega
      rw [List.getElem?_append_right (by rw [winL_length]; exact Nat.le_refl _), winL_length]
      simp
theorem winsOf_at {N : Net} {i : Nat} (h : i < N.n) : (winsOf N)[i]? = some (winG (fin N).S (fin N).E (fin N).L i) := winL_at _ _ _ _ _ h
theorem race_all : ∀ a0 a1 a2 a3 b0 b1 b2 b3 su su' : Bool, ((!a0 || b0) && (!a1 || b1) && (!a2 || b2) && (!a3 || b3) && (!su' || su) && RacesOfP ⟨bI a0 + 2 * bI a1 + 4 * bI a2 + 8 * bI a3, su, 0, 0⟩) = true → RacesOfP ⟨bI b0 + 2 * bI b1 + 4 * bI b2 + 8 * bI b3, su', 0, 0⟩ = true := by
  decide +kernel
theorem imp_or {a b : Bool} (h : a = true → b = true) : (!a || b) = true := by
  cases a
  · rfl
  · rw [h rfl]; rfl
theorem race_wider {S S' : Nat → Bool} {a b c d : Int} {v v' : Nat} (hS : ∀ s, S s = true → S' s = true) (hv : v ≤ v') (h : RacesOfP ⟨sBits S, decide (v < big), a, b⟩ = true) : RacesOfP ⟨sBits S', decide (v' < big), c, d⟩ = true := by
  refine race_all (S 0) (S 1) (S 2) (S 3) (S' 0) (S' 1) (S' 2) (S' 3) (decide (v < big)) (decide (v' < big)) ?_
  have h4 : decide (v' < big) = true → decide (v < big) = true := by simp only [decide_eq_true_eq]; omega
  rw [imp_or (hS 0), imp_or (hS 1), imp_or (hS 2), imp_or (hS 3), imp_or h4]
  exact h
/-- Whether windows tell of a race. -/
def raceB (R : List Wn) : Bool := R.any RacesOfP
theorem raceB_wider {N N' : Net} (ok : N.Ok) (ok' : N'.Ok) (h : Wider N N') (hr : raceB (winsOf N) = true) : raceB (winsOf N') = true := by
  unfold raceB at *
  rw [List.any_eq_true] at *
  obtain ⟨p, hp, hR⟩ := hr
  obtain ⟨i, hi, he⟩ := List.mem_iff_getElem.1 hp
  rw [winsOf_length] at hi
  have e1 : (winsOf N)[i]? = some p := by rw [List.getElem?_eq_getElem (by rw [winsOf_length]; exact hi), he]
  rw [winsOf_at hi] at e1
  injection e1 with e1
  subst e1
  have e2 := winsOf_at (N := N') (i := i) (by rw [h.n]; exact hi)
  obtain ⟨h1, h2, h3⟩ := fin_wider ok ok' h
  refine ⟨_, List.mem_of_getElem? e2, ?_⟩
  exact race_wider (v := best4 fun k => (fin N).L (4 * i + k)) (fun s hs => h2 i s hs) (best4_mono fun k _ => h3 _) hR
/-- Whether all that were sure until a tick still are. -/
def inT (u : Int) (p : Wn) : Bool := p.su && decide (p.la ≤ u)
def stillB (u : Int) (R R' : List Wn) : Nat → Bool
  | 0 => true
  | k + 1 => stillB u R R' k && match R[k]?, R'[k]? with
    | some p, some q => !inT u p || inT u q
    | _, _ => true
theorem stillB_iff {u : Int} {R R' : List Wn} : ∀ {n : Nat}, stillB u R R' n = true ↔ ∀ k p q, k < n → R[k]? = some p → R'[k]? = some q → inT u p = true → inT u q = true
  | 0 => by simp [stillB]
  | n + 1 => by
    unfold stillB
    rw [Bool.and_eq_true, stillB_iff]
    constructor
    · rintro ⟨h1, h2⟩ k p q hk e1 e2 h3
      rcases Nat.lt_or_ge k n with h | h
      · exact h1 k p q h e1 e2 h3
      · obtain rfl : k = n := by omega
        rw [e1, e2] at h2
        simpa [h3] using h2
    · intro h
      refine ⟨fun k p q hk => h k p q (by omega), ?_⟩
      split
      · rename_i p q e1 e2
        have := h n p q (by omega) e1 e2
        cases hp : inT u p
        · rfl
        · rw [this hp]; rfl
      · rfl
theorem inT_wider {u : Int} {M M' : Nat → Nat → Bool} {E E' L L' : Nat → Nat} {i : Nat} (hL : ∀ y, L y ≤ L' y) (h : inT u (winG M' E' L' i) = true) : inT u (winG M E L i) = true := by
  unfold inT winG at *
  dsimp only at *
  rw [Bool.and_eq_true, decide_eq_true_eq, decide_eq_true_eq] at *
  have h1 : best4 (fun k => L (4 * i + k)) ≤ best4 (fun k => L' (4 * i + k)) := best4_mono fun k _ => hL _
  rw [dn_lt h.1] at h
  have h2 : best4 (fun k => L (4 * i + k)) < big := by omega
  rw [dn_lt h2]
  exact ⟨h2, by omega⟩
theorem still_wider {u : Int} {R : List Wn} {N N' : Net} (ok : N.Ok) (ok' : N'.Ok) (h : Wider N N') {n : Nat} (hn : n ≤ N.n) (hs : stillB u R (winsOf N') n = true) : stillB u R (winsOf N) n = true := by
  rw [stillB_iff] at *
  intro k p q hk e1 e2 hp
  have hkn : k < N.n := by omega
  rw [winsOf_at hkn] at e2
  injection e2 with e2
  subst e2
  have := hs k p _ hk e1 (winsOf_at (N := N') (i := k) (by rw [h.n]; exact hkn)) hp
  exact inT_wider (fin_wider ok ok' h).2.2 this
/-- How many steps can be taken, from below. -/
def upw (P : Nat → Bool) : Nat → Nat → Nat
  | 0, k => k
  | f + 1, k => if P (k + 1) = true then k else upw P f (k + 1)
theorem upw_stop {P : Nat → Bool} {f k : Nat} (h : P (k + 1) = true) : upw P (f + 1) k = k := by rw [upw, if_pos h]
theorem upw_step {P : Nat → Bool} {f k : Nat} (h : P (k + 1) = false) : upw P (f + 1) k = upw P f (k + 1) := by rw [upw, if_neg (by rw [h]; simp)]
theorem upw_le (P : Nat → Bool) : ∀ f k, upw P f k ≤ k + f
  | 0, k => Nat.le_refl _
  | f + 1, k => by
    unfold upw
    split
    · omega
    · have := upw_le P f (k + 1); omega
/-- .. from above: the greatest step that can be taken. -/
theorem upw_down {P : Nat → Bool} : ∀ (f k m : Nat), k ≤ m → m ≤ k + f → (∀ j, k < j → j ≤ m → P j = false) → (m < k + f → P (m + 1) = true) → upw P f k = m
  | 0, k, m, h1, h2, _, _ => by unfold upw; omega
  | f + 1, k, m, h1, h2, h3, h4 => by
    rcases Nat.lt_or_ge k m with h | h
    · rw [upw_step (h3 (k + 1) (by omega) (by omega))]
      exact upw_down f (k + 1) m (by omega) (by omega) (fun j a b => h3 j (by omega) b) (fun a => h4 (by omega))
    · obtain rfl : k = m := by omega
      exact upw_stop (h4 (by omega))
end Go.Proofs.Ytnabedhhflfepaa
