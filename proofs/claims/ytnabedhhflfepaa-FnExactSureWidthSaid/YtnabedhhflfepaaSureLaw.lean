/-
  Plain law of the sure width: spans around the delays of a right board, wider by steps.
  Conditions: none.
-/
import Derived.Test.YtnabedhhflfepaaWiderLaw
namespace Go.Proofs.Ytnabedhhflfepaa
open Go.RowKit
set_option linter.unusedSimpArgs false
set_option linter.unusedVariables false

theorem winsOf_si (N : Net) : ∀ p ∈ winsOf N, 0 ≤ p.si ∧ p.si ≤ 15 := winL_si _ _ _ _
def arS (xs : List Pc) (m : Nat) : List Sp := xs.map (aroundG 0 (m : Int))
theorem arS_len (xs : List Pc) (m : Nat) : (arS xs m).length = xs.length := by simp [arS]
theorem arS_get (xs : List Pc) (m k : Nat) : (arS xs m)[k]? = xs[k]?.map (aroundG 0 (m : Int)) := by simp [arS]
theorem arS_ok {xs : List Pc} {ps : List Pu} {m : Nat} (h60 : xs.length ≤ 60) {wi hi : Int} (hb : bdOk wi hi xs = true) (hp : pushesOk xs ps = true) (b : Nat) (a : Option Addr) (c : Nat) (al : Option Addr) (cl : Nat) (sa : Option Addr) (sc : Nat) (na : Option Addr) (nc : Nat) :
    (ClkD.mk b wi hi a c xs al cl ps sa sc (arS xs m) na nc).Ok := by
  unfold pushesOk at hp
  simp only [Bool.and_eq_true, decide_eq_true_eq, List.all_eq_true] at hp
  obtain ⟨hp1, hp2, hp3⟩ := hp
  refine ⟨h60, hp1, arS_len _ _, fun p hp => pc_nums (pcs_of hb p hp), fun p hp => ?_, fun p hp => ?_, one_of hb⟩
  · have h1 := hp2 p hp
    have h2 := onB_in (cells_of hb) (hp3 p hp)
    unfold puOk at h1
    unfold cellIn at h2
    simp only [Bool.and_eq_true, inB_iff] at h1 h2
    omega
  · obtain ⟨x, hx, rfl⟩ := List.mem_map.1 (show p ∈ xs.map (aroundG 0 (m : Int)) from hp)
    have := pc_nums (pcs_of hb x hx)
    unfold aroundG
    dsimp only
    omega
theorem arS_wider {xs : List Pc} {ps : List Pu} {m m' : Nat} (h : m ≤ m') : Wider (netOf xs ps (arS xs m)) (netOf xs ps (arS xs m')) := by
  refine ⟨rfl, rfl, rfl, rfl, rfl, fun k => ?_, fun k => ?_⟩
  · show (match (arS xs m')[k]? with | some x => x.lo.toNat | none => 1) ≤ (match (arS xs m)[k]? with | some x => x.lo.toNat | none => 1)
    rw [arS_get, arS_get]
    cases xs[k]? with
    | none => exact Nat.le_refl _
    | some p => exact Nat.le_refl _
  · show (match (arS xs m)[k]? with | some x => x.hi.toNat | none => 1) ≤ (match (arS xs m')[k]? with | some x => x.hi.toNat | none => 1)
    rw [arS_get, arS_get]
    cases xs[k]? with
    | none => exact Nat.le_refl _
    | some p =>
      show (min (p.d + (m : Int)) 9).toNat ≤ (min (p.d + (m' : Int)) 9).toNat
      omega
/-- Whether so wide spans tell of a race. -/
def sureP (xs : List Pc) (ps : List Pu) (m : Nat) : Bool := raceB (winsOf (netOf xs ps (arS xs m)))
theorem sureP_up {xs : List Pc} {ps : List Pu} {wi hi : Int} (h60 : xs.length ≤ 60) (hb : bdOk wi hi xs = true) (hp : pushesOk xs ps = true) {m m' : Nat} (h : m ≤ m') (hr : sureP xs ps m = true) : sureP xs ps m' = true :=
  raceB_wider (net_ok (arS_ok h60 hb hp 0 none 0 none 0 none 0 none 0)) (net_ok (arS_ok h60 hb hp 0 none 0 none 0 none 0 none 0)) (arS_wider h) hr
def SureWidthG (wi hi : Int) (xs : List Pc) (ps : List Pu) (most : Int) : Int × Int :=
  if (bdOk wi hi xs && pushesOk xs ps) = true then
    if 60 < xs.length then (0, 3)
    else if inB most 0 9 = true then (((upw (sureP xs ps) most.toNat 0 : Nat) : Int), 0) else (0, 2)
  else (0, 1)
theorem sureG_1 {wi hi : Int} {xs : List Pc} {ps : List Pu} {most : Int} (h : (bdOk wi hi xs && pushesOk xs ps) = false) : SureWidthG wi hi xs ps most = (0, 1) := by
  unfold SureWidthG; rw [if_neg (by rw [h]; simp)]
theorem sureG_3 {wi hi : Int} {xs : List Pc} {ps : List Pu} {most : Int} (h : (bdOk wi hi xs && pushesOk xs ps) = true) (h1 : 60 < xs.length) : SureWidthG wi hi xs ps most = (0, 3) := by
  unfold SureWidthG; rw [if_pos h, if_pos h1]
theorem sureG_2 {wi hi : Int} {xs : List Pc} {ps : List Pu} {most : Int} (h : (bdOk wi hi xs && pushesOk xs ps) = true) (h1 : ¬ 60 < xs.length) (h2 : inB most 0 9 = false) : SureWidthG wi hi xs ps most = (0, 2) := by
  unfold SureWidthG; rw [if_pos h, if_neg h1, if_neg (by rw [h2]; simp)]
theorem sureG_0 {wi hi : Int} {xs : List Pc} {ps : List Pu} {M : Nat} (h : (bdOk wi hi xs && pushesOk xs ps) = true) (h1 : ¬ 60 < xs.length) (h2 : inB (M : Int) 0 9 = true) : SureWidthG wi hi xs ps M = (((upw (sureP xs ps) M 0 : Nat) : Int), 0) := by
  unfold SureWidthG; rw [if_pos h, if_neg h1, if_pos h2, Int.toNat_natCast]
theorem idxP_pos (P : Wn → Bool) (R : List Wn) : ∀ k, k ≤ R.length → decide (0 < (idxP P R k).length) = (R.take k).any P
  | 0, _ => by simp [idxP]
  | k + 1, hk => by
    have e : R[k]? = some R[k] := List.getElem?_eq_getElem (by omega)
    rw [List.take_add_one, List.any_append, ← idxP_pos P R k (by omega), e]
    cases h : P R[k]
    · rw [idxP_no e h]; simp [h]
    · rw [idxP_yes e h]; simp [h]
theorem race_pos (R : List Wn) : decide (0 < (idxP RacesOfP R R.length).length) = raceB R := by
  rw [idxP_pos _ _ _ (Nat.le_refl _), List.take_length]; rfl
end Go.Proofs.Ytnabedhhflfepaa
