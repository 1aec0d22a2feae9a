/-
  Plain law of lines: what ShortestCells and LayLine tell.
  Conditions: none; plain law.
-/
import Derived.Test.YtgkgklgeobbmlaaLineP
import Derived.Test.YtgkgklgeobbmlaaGaps
namespace Go.Proofs.Ytgkgklgeobbmlaa
open Go.RowKit
set_option linter.unusedSimpArgs false
set_option linter.unusedVariables false

theorem inB_it {n a b : Int} : inB n a b = true ↔ a ≤ n ∧ n ≤ b := by unfold inB; rw [Bool.and_eq_true, decide_eq_true_iff, decide_eq_true_iff]
/-- A right way: two free cells and two sides. -/
def wayB (wi hi : Int) (xs : List Pc) (w : Wy) : Bool := freeG wi hi xs w.fx w.fy && freeG wi hi xs w.tx w.ty && inB w.sd 0 3 && inB w.ou 0 3 && !(decide (w.fx = w.tx ∧ w.fy = w.ty) && decide (w.sd = w.ou))
def farD (wi hi : Int) (xs : List Pc) (x y : Int) : DstT := (bfsQ (freeG wi hi xs) ⟨x, y⟩ (wi.toNat * hi.toNat)).2
def pathW (wi hi : Int) (xs : List Pc) (w : Wy) : List Ce := (backL (farD wi hi xs w.fx w.fy) (farD wi hi xs w.fx w.fy w.tx w.ty).toNat ⟨w.tx, w.ty⟩).reverse
def endsB (w : Wy) (P : List Ce) : Bool := P.any (isC (nx w.fx w.sd) (ny w.fy w.sd)) || P.any (isC (nx w.tx w.ou) (ny w.ty w.ou))
def shortG (wi hi : Int) (xs : List Pc) (w : Wy) : List Ce × Int :=
  if farD wi hi xs w.fx w.fy w.tx w.ty < 0 then ([], 6) else if endsB w (pathW wi hi xs w) = true then ([], 4) else (pathW wi hi xs w, 0)
def layG (wi hi : Int) (xs : List Pc) (P : List Ce) (w : Wy) : (Int × Int × List Pc) × Int :=
  if 200 < xs.length + P.length ∨ 120 < P.length then ((0, 0, []), 3) else ((wi, hi, xs ++ lineL P w.sd w.ou), 0)
def lineG (wi hi : Int) (xs : List Pc) (w : Wy) : (Int × Int × List Pc) × Int :=
  if (shortG wi hi xs w).2 = 0 then layG wi hi xs (shortG wi hi xs w).1 w else ((0, 0, []), (shortG wi hi xs w).2)
def LayLineG (wi hi : Int) (xs : List Pc) (w : Wy) : (Int × Int × List Pc) × Int :=
  if bdOk wi hi xs = true ∧ wayB wi hi xs w = true then lineG wi hi xs w else ((0, 0, []), 1)
theorem free_in {wi hi : Int} {xs : List Pc} {x y : Int} (h : freeG wi hi xs x y = true) : (0 ≤ x ∧ x < wi) ∧ (0 ≤ y ∧ y < hi) := by
  unfold freeG cellIn at h
  simp only [Bool.and_eq_true, inB_it] at h
  omega
/-- All cells of the queue are told when as many rounds are done. -/
theorem far_of {wi hi : Nat} {xs : List Pc} {c : Ce} (hc : freeG wi hi xs c.x c.y = true) {k : Nat} (hk : k = (bfsQ (freeG wi hi xs) c k).1.length) : bfsQ (freeG wi hi xs) c (wi * hi) = bfsQ (freeG wi hi xs) c k := by
  have h := bfs_ok hc k
  have hl := nodup_board (wi := wi) (hi := hi) h.nd (fun e he => free_in (h.fr e he))
  exact bfs_stay (by omega) _ (by omega)
theorem far_ok {wi hi : Int} {xs : List Pc} {x y : Int} (hc : freeG wi hi xs x y = true) : BfsOk (freeG wi hi xs) ⟨x, y⟩ (bfsQ (freeG wi hi xs) ⟨x, y⟩ (wi.toNat * hi.toNat)) := bfs_ok (c := ⟨x, y⟩) hc _
theorem path_way {wi hi : Int} {xs : List Pc} {w : Wy} (hf : freeG wi hi xs w.fx w.fy = true) (hd : 0 ≤ farD wi hi xs w.fx w.fy w.tx w.ty) :
    WayOk (freeG wi hi xs) (farD wi hi xs w.fx w.fy) ⟨w.fx, w.fy⟩ ⟨w.tx, w.ty⟩ (farD wi hi xs w.fx w.fy w.tx w.ty).toNat (pathW wi hi xs w) :=
  way_ok (far_ok hf) (e := ⟨w.tx, w.ty⟩) (by rw [Int.toNat_of_nonneg hd]; rfl)
theorem isC_mem {P : List Ce} {x y : Int} : P.any (isC x y) = true ↔ (⟨x, y⟩ : Ce) ∈ P := by
  rw [List.any_eq_true]
  unfold isC
  constructor
  · rintro ⟨c, hc, he⟩
    simp only [decide_eq_true_eq] at he
    cases c
    simp_all
  · intro h
    exact ⟨_, h, by simp⟩
theorem way_line {F : Int → Int → Bool} {D : DstT} {c e : Ce} {d : Nat} {P : List Ce} (h : WayOk F D c e d P) {side out : Int} (hs : 0 ≤ side ∧ side ≤ 3) (ho : 0 ≤ out ∧ out ≤ 3) (hone : c = e → side ≠ out)
    (h0 : (⟨nx c.x side, ny c.y side⟩ : Ce) ∉ P) (h1 : (⟨nx e.x out, ny e.y out⟩ : Ce) ∉ P) : LineOk P side out := by
  have hl := h.len
  refine ⟨by omega, hs, ho, fun hP => hone ?_, fun i p q hp hq => ?_, fun i j p hi hj => h.inj hi hj, fun p hp i hi => ?_, fun p hp i hi => ?_⟩
  · have hd : d = 0 := by omega
    have e1 := h.last
    rw [hd, h.head] at e1
    injection e1
  · obtain ⟨s, hs4, e1⟩ := h.step i p q hp hq
    refine ⟨⟨(s + 2) % 4, by omega, ?_⟩, s, hs4, e1⟩
    rw [e1]
    show q = ⟨nx (nx q.x s) _, ny (ny q.y s) _⟩
    rw [nx_back q.x s hs4, ny_back q.y s hs4]
  · rw [h.head] at hp
    injection hp with hp
    subst hp
    exact h0 (List.mem_of_getElem? hi)
  · rw [show P.length - 1 = d by omega, h.last] at hp
    injection hp with hp
    subst hp
    exact h1 (List.mem_of_getElem? hi)
theorem sideG_ge {p q : Ce} (h : ∃ s : Nat, s < 4 ∧ q = ⟨nx p.x s, ny p.y s⟩) : ¬ sideG p.x p.y q.x q.y < 0 := by
  obtain ⟨s, hs, e⟩ := h
  rw [e]
  show ¬ sideG p.x p.y (nx p.x s) (ny p.y s) < 0
  rw [sideG_nx _ _ s hs]
  omega
theorem way_path {wi hi : Int} {xs : List Pc} {D : DstT} {c e : Ce} {d : Nat} {P : List Ce} (h : WayOk (freeG wi hi xs) D c e d P) (hw : wi ≤ 24) (hh : hi ≤ 24) (hn : P.length ≤ 120) : pathB P = true := by
  have hl := h.len
  refine pathB_true (inB_it.2 (by omega)) (fun k hk => ?_)
  have hp : P[k]? = some P[k] := List.getElem?_eq_getElem hk
  have hin := free_in (h.fr P[k] (List.getElem_mem hk))
  unfold pathAt
  rw [hp]
  dsimp only
  rw [Bool.and_eq_true, Bool.and_eq_true]
  refine ⟨?_, ?_, ?_⟩
  · unfold cellIn
    rw [Bool.and_eq_true, inB_it, inB_it]
    omega
  · rw [Bool.not_eq_true']
    cases hany : (P.take k).any (isC P[k].x P[k].y) with
    | false => rfl
    | true =>
      obtain ⟨j, hj⟩ := List.mem_iff_getElem?.1 (isC_mem.1 hany)
      rw [List.getElem?_take] at hj
      split at hj
      · rename_i hjk
        have := h.inj (p := P[k]) (i := j) (j := k) hj hp
        omega
      · cases hj
  · cases k with
    | zero => rfl
    | succ j =>
      have hj : P[j]? = some P[j] := List.getElem?_eq_getElem (by omega)
      obtain ⟨s, hs, e1⟩ := h.step j _ _ hj hp
      dsimp only
      rw [hj]
      dsimp only
      rw [Bool.not_eq_true', decide_eq_false_iff_not]
      exact sideG_ge ⟨(s + 2) % 4, by omega, by
        rw [e1]
        show P[j + 1] = ⟨nx (nx P[j + 1].x s) _, ny (ny P[j + 1].y s) _⟩
        rw [nx_back _ s hs, ny_back _ s hs]⟩
end Go.Proofs.Ytgkgklgeobbmlaa
