/-
  Plain law of the slack: spans that are widened by steps.
  Conditions: none.
-/
import Derived.Test.YtnabedhhflfepaaGreatWiderLaw
namespace Go.Proofs.YtnabedhhflfepaaGreat
open Go.RowKit
set_option linter.unusedSimpArgs false
set_option linter.unusedVariables false

def wideS (ss : List Sp) (i m : Nat) : List Sp := match ss[i]? with
  | some s => ss.set i ⟨s.lo, s.hi + m⟩
  | none => ss
theorem wideS_at {ss : List Sp} {i m : Nat} {s : Sp} (h : ss[i]? = some s) : wideS ss i m = ss.set i ⟨s.lo, s.hi + m⟩ := by unfold wideS; rw [h]
theorem wideS_len (ss : List Sp) (i m : Nat) : (wideS ss i m).length = ss.length := by unfold wideS; split <;> simp
theorem wideS_get {ss : List Sp} {i m : Nat} {s : Sp} (h : ss[i]? = some s) (k : Nat) : (wideS ss i m)[k]? = if k = i then some ⟨s.lo, s.hi + m⟩ else ss[k]? := by
  rw [wideS_at h, List.getElem?_set]
  have hi := (List.getElem?_eq_some_iff.1 h).1
  by_cases e : i = k
  · subst e; simp [hi]
  · rw [if_neg e, if_neg (fun x => e x.symm)]
theorem wideS_ok {xs : List Pc} {ps : List Pu} {ss : List Sp} {i m : Nat} {s : Sp} (h : ss[i]? = some s) (hm : s.hi + m ≤ 9) (b : Nat) (wi hi : Int) (a : Option Addr) (c : Nat) (al : Option Addr) (cl : Nat) (sa sa' : Option Addr) (sc sc' : Nat) (na : Option Addr) (nc : Nat)
    (hD : (ClkD.mk b wi hi a c xs al cl ps sa sc ss na nc).Ok) : (ClkD.mk b wi hi a c xs al cl ps sa' sc' (wideS ss i m) na nc).Ok := by
  refine ⟨hD.n, hD.m, ?_, hD.pc, hD.pu, fun p hp => ?_, hD.one⟩
  · have := hD.len
    show (wideS ss i m).length = _
    rw [wideS_len]
    exact this
  · have hp' : p ∈ wideS ss i m := hp
    rw [wideS_at h] at hp'
    have hs := hD.sp s (List.mem_of_getElem? h)
    rcases List.mem_or_eq_of_mem_set hp' with h1 | h1
    · exact hD.sp p h1
    · subst h1; dsimp only; omega
theorem wideS_wider {xs : List Pc} {ps : List Pu} {ss : List Sp} {i m m' : Nat} {s : Sp} (h : ss[i]? = some s) (hm : m ≤ m') : Wider (netOf xs ps (wideS ss i m)) (netOf xs ps (wideS ss i m')) := by
  refine ⟨rfl, rfl, rfl, rfl, rfl, fun k => ?_, fun k => ?_⟩
  · show (match (wideS ss i m')[k]? with | some x => x.lo.toNat | none => 1) ≤ (match (wideS ss i m)[k]? with | some x => x.lo.toNat | none => 1)
    rw [wideS_get h, wideS_get h]
    by_cases e : k = i
    · rw [if_pos e, if_pos e]; exact Nat.le_refl _
    · rw [if_neg e, if_neg e]; exact Nat.le_refl _
  · show (match (wideS ss i m)[k]? with | some x => x.hi.toNat | none => 1) ≤ (match (wideS ss i m')[k]? with | some x => x.hi.toNat | none => 1)
    rw [wideS_get h, wideS_get h]
    by_cases e : k = i
    · rw [if_pos e, if_pos e]
      show (s.hi + m).toNat ≤ (s.hi + m').toNat
      omega
    · rw [if_neg e, if_neg e]; exact Nat.le_refl _
theorem flat_hi {v : Int} : ∀ {ss : List Sp} {i : Nat} {s : Sp}, ss[i]? = some s → (ss.set i ⟨s.lo, v⟩).flatMap Sp.enc = (ss.flatMap Sp.enc).set (i * 2 + 1) (.int .i8 v)
  | [], i, s, h => by simp at h
  | x :: ss, 0, s, h => by
    simp at h
    subst h
    rfl
  | x :: ss, i + 1, s, h => by
    have ih := flat_hi (v := v) (ss := ss) (i := i) (s := s) (by simpa using h)
    rw [List.set_cons_succ, List.flatMap_cons, List.flatMap_cons, ih, show (i + 1) * 2 + 1 = (i * 2 + 1) + 1 + 1 by omega]
    rfl
theorem flat_hi_at : ∀ {ss : List Sp} {i : Nat} {s : Sp}, ss[i]? = some s → (ss.flatMap Sp.enc)[i * 2 + 1]? = some (.int .i8 s.hi)
  | [], i, s, h => by simp at h
  | x :: ss, 0, s, h => by
    simp at h
    subst h
    rfl
  | x :: ss, i + 1, s, h => by
    have ih := flat_hi_at (ss := ss) (i := i) (s := s) (by simpa using h)
    rw [List.flatMap_cons, show (i + 1) * 2 + 1 = (i * 2 + 1) + 1 + 1 by omega]
    exact ih
/-- Whether steps are too many. -/
def slackP (xs : List Pc) (ps : List Pu) (ss : List Sp) (i : Nat) (u : Int) (m : Nat) : Bool := !stillB u (winsOf (netOf xs ps ss)) (winsOf (netOf xs ps (wideS ss i m))) xs.length
theorem slackP_down {xs : List Pc} {ps : List Pu} {ss : List Sp} {i m m' : Nat} {s : Sp} {u : Int} (h : ss[i]? = some s) (hm : m ≤ m') (hm9 : s.hi + m' ≤ 9)
    (hD : (ClkD.mk 0 0 0 none 0 xs none 0 ps none 0 ss none 0).Ok) (hp : slackP xs ps ss i u m' = false) : slackP xs ps ss i u m = false := by
  unfold slackP at *
  rw [Bool.not_eq_false'] at *
  have ok1 : (netOf xs ps (wideS ss i m)).Ok := net_ok (wideS_ok h (by omega) 0 0 0 none 0 none 0 none none 0 0 none 0 hD)
  have ok2 : (netOf xs ps (wideS ss i m')).Ok := net_ok (wideS_ok h hm9 0 0 0 none 0 none 0 none none 0 0 none 0 hD)
  exact still_wider ok1 ok2 (wideS_wider h hm) (Nat.le_refl _) hp
def SlackForG (wi hi : Int) (xs : List Pc) (ps : List Pu) (ss : List Sp) (i u : Int) : Int × Int :=
  if askedG wi hi xs ps ss = 0 then
    if (inB i 0 ((xs.length : Int) - 1) && inB u 0 1000000) = true then ((upw (slackP xs ps ss i.toNat u) (9 - (ss.getD i.toNat Sp.z).hi).toNat 0 : Nat), 0)
    else (0, 2)
  else (0, askedG wi hi xs ps ss)
theorem stillB_mono {u : Int} {R R' : List Wn} {n k : Nat} (hk : k ≤ n) (h : stillB u R R' k = false) : stillB u R R' n = false := by
  cases e : stillB u R R' n with
  | false => rfl
  | true =>
    have : stillB u R R' k = true := stillB_iff.2 fun j p q hj => stillB_iff.1 e j p q (by omega)
    rw [h] at this
    cases this
theorem stillB_step {u : Int} {R R' : List Wn} {k : Nat} {p q : Wn} (h1 : R[k]? = some p) (h2 : R'[k]? = some q) : stillB u R R' (k + 1) = (stillB u R R' k && (!inT u p || inT u q)) := by
  rw [stillB, h1, h2]
end Go.Proofs.YtnabedhhflfepaaGreat
