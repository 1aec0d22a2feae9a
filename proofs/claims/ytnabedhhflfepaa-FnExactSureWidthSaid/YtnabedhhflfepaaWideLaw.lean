/-
  Plain law of the windows: what is sure falls no earlier than it may; the widest span.
  Conditions: none.
-/
import Derived.Test.YtnabedhhflfepaaWith
namespace Go.Proofs.Ytnabedhhflfepaa
open Go.RowKit
set_option linter.unusedSimpArgs false
set_option linter.unusedVariables false

theorem minW_or (f : Nat → Bool) (E : Nat → Nat) : ∀ m, minW f E m = big ∨ ∃ s, s < m ∧ f s = true ∧ minW f E m = E s
  | 0 => .inl rfl
  | m + 1 => by
    unfold minW
    split
    · rename_i h
      rcases minW_or f E m with h1 | ⟨s, h1, h2, h3⟩
      · rw [h1]
        rcases Nat.lt_or_ge (E m) big with h4 | h4
        · exact .inr ⟨m, by omega, h, by omega⟩
        · exact .inl (by omega)
      · rw [h3]
        rcases Nat.lt_or_ge (E m) (E s) with h4 | h4
        · exact .inr ⟨m, by omega, h, by omega⟩
        · exact .inr ⟨s, by omega, h2, by omega⟩
    · rcases minW_or f E m with h1 | ⟨s, h1, h2, h3⟩
      · exact .inl h1
      · exact .inr ⟨s, by omega, h2, h3⟩
theorem may_le {E L : Nat → Nat} {i s j : Nat} (h : mayT E L i s = true) (hj : j < 4) : E (4 * i + s) ≤ L (4 * i + j) := by
  unfold mayT at h
  simp only [Bool.and_eq_true, decide_eq_true_eq, Bool.not_eq_true'] at h
  apply Classical.byContradiction
  intro hn
  have : bef L i (E (4 * i + s)) s = true := bef_iff.2 ⟨j, hj, .inl (by omega)⟩
  rw [h.2] at this
  cases this
/-- A window that is in order. -/
structure Wn.Fit (p : Wn) : Prop where
  si : 0 ≤ p.si ∧ p.si ≤ 15
  ea : -1 ≤ p.ea ∧ p.ea < 1099511627776
  la : -1 ≤ p.la ∧ p.la < 1099511627776
  su : p.su = decide (0 ≤ p.la)
  le : p.su = true → p.ea ≤ p.la
theorem dn_in (v : Nat) : -1 ≤ dn v ∧ dn v < 1099511627776 := by
  unfold dn
  have hb : big = 1099511627776 := rfl
  split
  · rename_i h; rw [hb] at h; constructor <;> omega
  · constructor <;> omega
theorem winG_fit {E L : Nat → Nat} (i : Nat) : (winG (mayT E L) E L i).Fit := by
  refine ⟨sBits_in _, dn_in _, dn_in _, ?_, fun h => ?_⟩
  · show decide (best4 (fun k => L (4 * i + k)) < big) = decide (0 ≤ dn (best4 fun k => L (4 * i + k)))
    by_cases h : best4 (fun k => L (4 * i + k)) < big
    · rw [dn_lt h, decide_eq_true h, decide_eq_true (by omega)]
    · rw [dn_ge h, decide_eq_false h]; rfl
  · have h1 : best4 (fun k => L (4 * i + k)) < big := of_decide_eq_true h
    show dn (minW (mayT E L i) (fun k => E (4 * i + k)) 4) ≤ dn (best4 fun k => L (4 * i + k))
    rw [dn_lt h1]
    rcases minW_or (mayT E L i) (fun k => E (4 * i + k)) 4 with h2 | ⟨s, hs, h2, h3⟩
    · rw [h2, dn_ge (by omega)]; omega
    · have h4 : ∀ j, j < 4 → E (4 * i + s) ≤ L (4 * i + j) := fun j hj => may_le h2 hj
      have h5 : E (4 * i + s) ≤ best4 (fun k => L (4 * i + k)) := le_best4 h4
      rw [show minW (mayT E L i) (fun k => E (4 * i + k)) 4 = E (4 * i + s) from h3, dn_lt (by omega)]
      omega
theorem winL_fit {E L : Nat → Nat} : ∀ n, ∀ p ∈ winL (mayT E L) E L n, p.Fit
  | 0, p, h => by cases h
  | n + 1, p, h => by
    rw [winL, List.mem_append] at h
    rcases h with h | h
    · exact winL_fit n p h
    · rw [List.mem_singleton] at h
      subst h
      exact winG_fit n
theorem winsOf_fit {N : Net} (ok : N.Ok) : ∀ p ∈ winsOf N, p.Fit := by
  unfold winsOf
  rw [← may_rest ok (rest_is ok).1]
  exact winL_fit _
theorem wins_fit (wi hi : Int) (xs : List Pc) (ps : List Pu) (ss : List Sp) : ∀ p ∈ (WindowsOfG wi hi xs ps ss).1, p.Fit := by
  unfold WindowsOfG
  split
  · rename_i h
    obtain ⟨htb, h60⟩ := asked_ok h
    exact winsOf_fit (net_ok (ok_of htb h60 0 none 0 none 0 none 0 none 0))
  · intro p hp; cases hp
/-- The widest span so far: its place and its width. -/
def wideR (R : List Wn) : Nat → Int × Int
  | 0 => (-1, -1)
  | k + 1 => match R[k]? with
    | some p => if p.su = true ∧ (wideR R k).2 < p.la - p.ea then ((k : Int), p.la - p.ea) else wideR R k
    | none => wideR R k
theorem wideR_yes {R : List Wn} {k : Nat} {p : Wn} (h : R[k]? = some p) (h1 : p.su = true) (h2 : (wideR R k).2 < p.la - p.ea) : wideR R (k + 1) = ((k : Int), p.la - p.ea) := by
  rw [wideR, h]
  dsimp only
  rw [if_pos ⟨h1, h2⟩]
theorem wideR_no {R : List Wn} {k : Nat} {p : Wn} (h : R[k]? = some p) (h1 : ¬ (p.su = true ∧ (wideR R k).2 < p.la - p.ea)) : wideR R (k + 1) = wideR R k := by
  rw [wideR, h]
  dsimp only
  rw [if_neg h1]
theorem wideR_in {R : List Wn} (hR : ∀ p ∈ R, p.Fit) : ∀ k, k ≤ R.length → ((wideR R k).1 = -1 ∧ (wideR R k).2 = -1) ∨ (0 ≤ (wideR R k).1 ∧ (wideR R k).1 < k ∧ 0 ≤ (wideR R k).2 ∧ (wideR R k).2 ≤ 1099511627776)
  | 0, _ => .inl ⟨rfl, rfl⟩
  | k + 1, hk => by
    have hlt : k < R.length := by omega
    have e : R[k]? = some R[k] := List.getElem?_eq_getElem hlt
    have hf := hR _ (List.getElem_mem hlt)
    have ih := wideR_in hR k (by omega)
    by_cases h : R[k].su = true ∧ (wideR R k).2 < R[k].la - R[k].ea
    · rw [wideR_yes e h.1 h.2]
      have h1 := hf.le h.1
      have h2 := hf.ea
      have h3 := hf.la
      right
      dsimp only
      omega
    · rw [wideR_no e h]
      rcases ih with ih | ih
      · exact .inl ih
      · right; omega
def WidestSpanG (wi hi : Int) (xs : List Pc) (ps : List Pu) (ss : List Sp) : Int × Int × Int :=
  if (WindowsOfG wi hi xs ps ss).2.2 = 0 then
    if (wideR (WindowsOfG wi hi xs ps ss).1 (WindowsOfG wi hi xs ps ss).1.length).1 < 0 then (0, 0, 6)
    else ((wideR (WindowsOfG wi hi xs ps ss).1 (WindowsOfG wi hi xs ps ss).1.length).1, (wideR (WindowsOfG wi hi xs ps ss).1 (WindowsOfG wi hi xs ps ss).1.length).2, 0)
  else (0, 0, (WindowsOfG wi hi xs ps ss).2.2)
end Go.Proofs.Ytnabedhhflfepaa
