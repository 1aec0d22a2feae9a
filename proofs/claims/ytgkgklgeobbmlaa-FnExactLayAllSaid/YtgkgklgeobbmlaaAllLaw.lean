/-
  Plain law: lines that are laid for several ways, one behind the other.
  Conditions: none; plain law.
-/
import Derived.Test.YtgkgklgeobbmlaaDelI
namespace Go.Proofs.Ytgkgklgeobbmlaa
open Go.RowKit
set_option linter.unusedSimpArgs false
set_option linter.unusedVariables false

def allG (wi hi : Int) : List Pc → List Wy → (Int × Int × List Pc) × Int
  | xs, [] => ((wi, hi, xs), 0)
  | xs, w :: ws => if wayB wi hi xs w = true then (if (lineG wi hi xs w).2 = 0 then allG wi hi (lineG wi hi xs w).1.2.2 ws else ((0, 0, []), (lineG wi hi xs w).2)) else ((0, 0, []), 1)
theorem line_pcs_at {P : List Ce} {side out : Int} {i : Nat} {q : Pc} (h : (lineL P side out)[i]? = some q) : ∃ c, P[i]? = some c ∧ q.x = c.x ∧ q.y = c.y := by
  have hi : i < P.length := by have := (List.getElem?_eq_some_iff.1 h).1; rwa [lineL_len] at this
  unfold lineL at h
  rw [List.getElem?_map, List.getElem?_range hi] at h
  injection h with h
  have hp : P[i]? = some P[i] := List.getElem?_eq_getElem hi
  refine ⟨P[i], hp, ?_, ?_⟩
  · rw [← h]; unfold linePc; rw [getD_of hp]; rfl
  · rw [← h]; unfold linePc; rw [getD_of hp]; rfl
theorem lay_ok {wi hi : Int} {xs : List Pc} {p : Wy} (hb : bdOk wi hi xs = true) (hw : wayB wi hi xs p = true) (h0 : (lineG wi hi xs p).2 = 0) :
    ∃ P, LnOk wi hi xs p P ∧ lineG wi hi xs p = ((wi, hi, xs ++ lineL P p.sd p.ou), 0) ∧ xs.length + P.length ≤ 200 ∧ P.length ≤ 120 := by
  unfold lineG at h0 ⊢
  by_cases hc : (shortG wi hi xs p).2 = 0
  · rw [if_pos hc] at h0 ⊢
    have hln := short_ln hw hc
    unfold layG at h0 ⊢
    by_cases hl : 200 < xs.length + (shortG wi hi xs p).1.length ∨ 120 < (shortG wi hi xs p).1.length
    · rw [if_pos hl] at h0
      exact absurd (show (3 : Int) = 0 from h0) (by decide)
    · rw [if_neg hl]
      exact ⟨_, hln, rfl, by omega, by omega⟩
  · rw [if_neg hc] at h0
    exact absurd h0 hc
theorem bd_more {wi hi : Int} {xs : List Pc} {p : Wy} {P : List Ce} {L : List Pc} (hb : bdOk wi hi xs = true) (hln : LnOk wi hi xs p P) (hl : xs.length + P.length ≤ 200) (hLl : L.length = P.length) (hLp : ∀ q ∈ L, pcOk q = true) (hLc : ∀ (i : Nat) (q : Pc), L[i]? = some q → ∃ c, P[i]? = some c ∧ q.x = c.x ∧ q.y = c.y) : bdOk wi hi (xs ++ L) = true := by
  have hb' := hb
  unfold bdOk at hb'
  simp only [Bool.and_eq_true, List.all_eq_true, List.mem_range] at hb'
  obtain ⟨h1, h2, h3, h4⟩ := hb'
  refine bdOk_true h1 h2 (by rw [List.length_append, hLl]; omega) (fun j hj => ?_)
  by_cases hjx : j < xs.length
  · have := h4 j hjx
    unfold okAt at this ⊢
    rw [List.getElem?_append_left hjx, List.take_append_of_le_length (Nat.le_of_lt hjx)]
    exact this
  · rw [List.length_append] at hj
    obtain ⟨i, rfl⟩ : ∃ i, j = xs.length + i := ⟨j - xs.length, by omega⟩
    have hi : i < L.length := by omega
    have hq : L[i]? = some L[i] := List.getElem?_eq_getElem hi
    obtain ⟨c, hc, hx, hy⟩ := hLc i _ hq
    have hfr := hln.fr c (List.mem_of_getElem? hc)
    unfold freeG at hfr
    rw [Bool.and_eq_true] at hfr
    unfold okAt
    rw [List.getElem?_append_right (by omega), Nat.add_sub_cancel_left, hq]
    dsimp only
    rw [hLp _ (List.getElem_mem hi), hx, hy, hfr.1]
    have htk : (xs ++ L).take (xs.length + i) = xs ++ L.take i := by rw [List.take_append, List.take_of_length_le (by omega), Nat.add_sub_cancel_left]
    rw [htk, List.any_append]
    have hx0 : xs.any (atC c.x c.y) = false := by simpa using hfr.2
    rw [hx0]
    have hl0 : (L.take i).any (atC c.x c.y) = false := by
      rw [List.any_eq_false]
      intro q hq2 ha
      obtain ⟨k, hk⟩ := List.mem_iff_getElem?.1 hq2
      rw [List.getElem?_take] at hk
      split at hk
      · rename_i hki
        obtain ⟨c2, hc2, hx2, hy2⟩ := hLc k q hk
        unfold atC at ha
        rw [decide_eq_true_iff] at ha
        have : c2 = c := by cases c; cases c2; simp_all
        have := hln.line.nd k i c2 hc2 (by rw [this]; exact hc)
        omega
      · cases hk
    rw [hl0]
    rfl
/-- A board with a line more is a right one. -/
theorem lay_bd {wi hi : Int} {xs : List Pc} {p : Wy} (hb : bdOk wi hi xs = true) (hw : wayB wi hi xs p = true) (h0 : (lineG wi hi xs p).2 = 0) : bdOk wi hi (lineG wi hi xs p).1.2.2 = true ∧ (lineG wi hi xs p).1.1 = wi ∧ (lineG wi hi xs p).1.2.1 = hi ∧ (∀ q ∈ (lineG wi hi xs p).1.2.2, q ∈ xs ∨ q.Ok) := by
  obtain ⟨P, hln, hG, h200, h120⟩ := lay_ok hb hw h0
  obtain ⟨hwi, hhi, _⟩ := bd_in hb
  have hin := ln_in hln hwi.2 hhi.2
  rw [hG]
  refine ⟨bd_more hb hln h200 (lineL_len _ _ _) (fun q hq => (line_pcs hln.line hin q hq).2) (fun i q hq => line_pcs_at hq), rfl, rfl, fun q hq => ?_⟩
  rcases List.mem_append.1 hq with h | h
  · exact .inl h
  · exact .inr (line_pcs hln.line hin q h).1
/-- One way more. -/
theorem all_step {wi hi : Int} {xs : List Pc} {w : Wy} {ws : List Wy} : allG wi hi xs (w :: ws) = if wayB wi hi xs w = true then (if (lineG wi hi xs w).2 = 0 then allG wi hi (lineG wi hi xs w).1.2.2 ws else ((0, 0, []), (lineG wi hi xs w).2)) else ((0, 0, []), 1) := rfl
theorem all_line {wi hi : Int} {xs : List Pc} {w : Wy} {ws : List Wy} (hb : bdOk wi hi xs = true) : allG wi hi xs (w :: ws) = if (LayLineG wi hi xs w).2 = 0 then allG wi hi (LayLineG wi hi xs w).1.2.2 ws else ((0, 0, []), (LayLineG wi hi xs w).2) := by
  rw [all_step]
  by_cases hw : wayB wi hi xs w = true
  · have e : LayLineG wi hi xs w = lineG wi hi xs w := by unfold LayLineG; rw [if_pos ⟨hb, hw⟩]
    rw [if_pos hw, e]
  · have e : LayLineG wi hi xs w = ((0, 0, []), 1) := by unfold LayLineG; rw [if_neg (fun h => hw h.2)]
    rw [if_neg hw, e]
    rfl
theorem line_bd {wi hi : Int} {xs : List Pc} {p : Wy} (hb : bdOk wi hi xs = true) (h0 : (LayLineG wi hi xs p).2 = 0) : bdOk wi hi (LayLineG wi hi xs p).1.2.2 = true ∧ (LayLineG wi hi xs p).1.1 = wi ∧ (LayLineG wi hi xs p).1.2.1 = hi ∧ (∀ q ∈ (LayLineG wi hi xs p).1.2.2, q ∈ xs ∨ q.Ok) := by
  by_cases hw : wayB wi hi xs p = true
  · have e : LayLineG wi hi xs p = lineG wi hi xs p := by unfold LayLineG; rw [if_pos ⟨hb, hw⟩]
    rw [e] at h0 ⊢
    exact lay_bd hb hw h0
  · have e : LayLineG wi hi xs p = ((0, 0, []), 1) := by unfold LayLineG; rw [if_neg (fun h => hw h.2)]
    rw [e] at h0
    exact absurd (show (1 : Int) = 0 from h0) (by decide)
def LayAllG (wi hi : Int) (xs : List Pc) (ws : List Wy) : (Int × Int × List Pc) × Int × Int :=
  if bdOk wi hi xs = true then (if ws.length ≤ 12 then (if (allG wi hi xs ws).2 = 0 then ((allG wi hi xs ws).1, ((allG wi hi xs ws).1.2.2.length : Int) - xs.length, 0) else ((0, 0, []), 0, (allG wi hi xs ws).2)) else ((0, 0, []), 0, 2)) else ((0, 0, []), 0, 1)
theorem all_len {wi hi : Int} : ∀ (ws : List Wy) {xs : List Pc}, bdOk wi hi xs = true → (allG wi hi xs ws).1.2.2.length ≤ 200
  | [], xs, hb => (bd_in hb).2.2
  | w :: ws, xs, hb => by
    rw [all_line hb]
    split
    · rename_i h0
      exact all_len ws (line_bd hb h0).1
    · exact Nat.zero_le _
/-- A board in the end has the same sides. -/
theorem all_sides {wi hi : Int} : ∀ (ws : List Wy) {xs : List Pc}, bdOk wi hi xs = true → (allG wi hi xs ws).2 = 0 → (allG wi hi xs ws).1.1 = wi ∧ (allG wi hi xs ws).1.2.1 = hi
  | [], xs, hb, _ => ⟨rfl, rfl⟩
  | w :: ws, xs, hb, h => by
    rw [all_line hb] at h ⊢
    by_cases h0 : (LayLineG wi hi xs w).2 = 0
    · rw [if_pos h0] at h ⊢
      exact all_sides ws (line_bd hb h0).1 h
    · rw [if_neg h0] at h
      exact absurd h h0
end Go.Proofs.Ytgkgklgeobbmlaa
