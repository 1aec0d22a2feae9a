/-
  A board that is right; the reference's answers to an accident and to the worst one.
  Conditions: none beyond those of the types.
-/
import Derived.Test.YtebefcfalnkdmaaGreatRunS3
import Derived.Test.YtebefcfalnkdmaaGreatGaps
namespace Go.Proofs.YtebefcfalnkdmaaGreat
open Go.RowKit
set_option linter.unusedSimpArgs false
set_option linter.unusedVariables false

theorem bpcs_of {wi hi : Int} {xs : List Pc} (h : bdOk wi hi xs = true) : ∀ p ∈ xs, pcOk p = true := by
  unfold bdOk at h
  simp only [Bool.and_eq_true] at h
  obtain ⟨_, _, _, h⟩ := h
  rw [List.all_eq_true] at h
  intro p hp
  obtain ⟨k, hk, e⟩ := List.mem_iff_getElem.1 hp
  have := h k (List.mem_range.2 hk)
  unfold okAt at this
  rw [List.getElem?_eq_getElem hk, e] at this
  simp only [Bool.and_eq_true] at this
  exact this.1
theorem bone_of {wi hi : Int} {xs : List Pc} (h : bdOk wi hi xs = true) : ∀ (i j : Nat) p q, xs[i]? = some p → xs[j]? = some q → p.x = q.x → p.y = q.y → i = j := by
  unfold bdOk at h
  simp only [Bool.and_eq_true] at h
  obtain ⟨_, _, _, h⟩ := h
  rw [List.all_eq_true] at h
  have key : ∀ (i j : Nat) p q, xs[i]? = some p → xs[j]? = some q → p.x = q.x → p.y = q.y → ¬ i < j := by
    intro i j p q hp hq hx hy hlt
    have hj := (List.getElem?_eq_some_iff.1 hq).1
    have := h j (List.mem_range.2 hj)
    unfold okAt at this
    rw [hq] at this
    simp only [Bool.and_eq_true, Bool.not_eq_true'] at this
    have h2 := this.2.2
    rw [List.any_eq_false] at h2
    refine h2 p ?_ (by unfold atC; simp [hx, hy])
    obtain ⟨hi', he⟩ := List.getElem?_eq_some_iff.1 hp
    exact List.mem_take_iff_getElem.2 ⟨i, by omega, he⟩
  intro i j p q hp hq hx hy
  have a := key i j p q hp hq hx hy
  have b := key j i q p hq hp hx.symm hy.symm
  omega
theorem inB_iff {n low high : Int} : inB n low high = true ↔ low ≤ n ∧ n ≤ high := by
  unfold inB
  simp
theorem bcells_of {wi hi : Int} {xs : List Pc} (h : bdOk wi hi xs = true) : ∀ q ∈ xs, cellIn q.x q.y 24 24 = true := by
  intro q hq
  have := bpcs_of h q hq
  unfold pcOk at this
  simp only [Bool.and_eq_true] at this
  exact this.2.2.2
theorem bpc_nums {p : Pc} (h : pcOk p = true) : (0 ≤ p.x ∧ p.x ≤ 23) ∧ (0 ≤ p.y ∧ p.y ≤ 23) ∧ (0 ≤ p.k ∧ p.k ≤ 5) ∧ (0 ≤ p.t ∧ p.t ≤ 3) ∧ (1 ≤ p.d ∧ p.d ≤ 9) := by
  unfold pcOk cellIn at h
  simp only [Bool.and_eq_true, inB_iff] at h
  omega
theorem brd_of {wi hi : Int} {xs : List Pc} (h : bdOk wi hi xs = true) : BrdOk xs := by
  have hn : xs.length ≤ 200 := by
    unfold bdOk at h
    simp only [Bool.and_eq_true, decide_eq_true_eq] at h
    exact h.2.2.1
  exact ⟨hn, fun p hp => bpc_nums (bpcs_of h p hp), bone_of h⟩
theorem built_zero {wi hi : Int} {xs : List Pc} (h : builtG wi hi xs = 0) : BrdOk xs ∧ xs.length ≤ 40 := by
  unfold builtG at h
  split at h
  · rename_i hb
    split at h
    · cases h
    · exact ⟨brd_of hb, by omega⟩
  · cases h
theorem built_three (wi hi : Int) (xs : List Pc) : builtG wi hi xs = 0 ∨ builtG wi hi xs = 1 ∨ builtG wi hi xs = 3 := by
  unfold builtG
  split
  · split <;> simp
  · simp
def AccidentsOfG (wi hi : Int) (xs : List Pc) (i : Int) : Int × Int := if builtG wi hi xs = 0 then (if inB i 0 ((xs.length : Int) - 1) = true then ((worstA xs i.toNat).2, 0) else (0, 2)) else (0, builtG wi hi xs)
def WorstAccidentG (wi hi : Int) (xs : List Pc) : Int × Int × Int × Int := if builtG wi hi xs = 0 then (if xs.length = 0 then (0, 0, 0, 6) else ((worstG xs).1, (worstG xs).2.1, (worstG xs).2.2, 0)) else (0, 0, 0, builtG wi hi xs)
end Go.Proofs.YtebefcfalnkdmaaGreat
