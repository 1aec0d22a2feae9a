/-
  Plain law of lines: the array of distances, the pieces of a line, what LayLine tells.
  Conditions: none; plain law.
-/
import Derived.Test.YtgkgklgeobbmlaaLineLaw
import Derived.Test.YtgkgklgeobbmlaaHits
import Derived.Test.YtgkgklgeobbmlaaPathC
namespace Go.Proofs.Ytgkgklgeobbmlaa
open Go.RowKit
set_option linter.unusedSimpArgs false
set_option linter.unusedVariables false

/-- The distances in the order of rows. -/
def distL (wi hi : Nat) (D : DstT) : List Int := (List.range (wi * hi)).map (fun i => D ((i % wi : Nat) : Int) ((i / wi : Nat) : Int))
theorem distL_len (wi hi : Nat) (D : DstT) : (distL wi hi D).length = wi * hi := by unfold distL; rw [List.length_map, List.length_range]
/-- The place of a cell. -/
def plcN (wi : Nat) (x y : Int) : Nat := y.toNat * wi + x.toNat
theorem plc_lt {wi hi : Nat} {x y : Int} (hx : 0 ≤ x ∧ x < wi) (hy : 0 ≤ y ∧ y < hi) : plcN wi x y < wi * hi := by
  obtain ⟨a, rfl⟩ : ∃ a : Nat, x = (a : Int) := ⟨x.toNat, by omega⟩
  obtain ⟨b, rfl⟩ : ∃ b : Nat, y = (b : Int) := ⟨y.toNat, by omega⟩
  unfold plcN
  rw [Int.toNat_natCast, Int.toNat_natCast]
  have h1 : (b + 1) * wi ≤ hi * wi := Nat.mul_le_mul_right _ (by omega)
  rw [Nat.add_mul, Nat.one_mul, Nat.mul_comm hi wi] at h1
  omega
theorem plc_int {wi : Nat} {x y : Int} (hx : 0 ≤ x) (hy : 0 ≤ y) : y * (wi : Int) + x = (plcN wi x y : Int) := by
  obtain ⟨a, rfl⟩ : ∃ a : Nat, x = (a : Int) := ⟨x.toNat, by omega⟩
  obtain ⟨b, rfl⟩ : ∃ b : Nat, y = (b : Int) := ⟨y.toNat, by omega⟩
  unfold plcN
  rw [Int.toNat_natCast, Int.toNat_natCast, Int.natCast_add, Int.natCast_mul]
theorem plc_mod {wi : Nat} {x y : Int} (hx : 0 ≤ x ∧ x < wi) (hy : 0 ≤ y) : ((plcN wi x y % wi : Nat) : Int) = x ∧ ((plcN wi x y / wi : Nat) : Int) = y := by
  obtain ⟨a, rfl⟩ : ∃ a : Nat, x = (a : Int) := ⟨x.toNat, by omega⟩
  obtain ⟨b, rfl⟩ : ∃ b : Nat, y = (b : Int) := ⟨y.toNat, by omega⟩
  have ha : a < wi := by omega
  unfold plcN
  rw [Int.toNat_natCast, Int.toNat_natCast, Nat.mul_comm, Nat.mul_add_mod, Nat.mod_eq_of_lt ha, Nat.mul_add_div (by omega), Nat.div_eq_of_lt ha, Nat.add_zero]
  exact ⟨rfl, rfl⟩
theorem distL_at {wi hi : Nat} (D : DstT) {x y : Int} (hx : 0 ≤ x ∧ x < wi) (hy : 0 ≤ y ∧ y < hi) : (distL wi hi D)[plcN wi x y]? = some (D x y) := by
  unfold distL
  obtain ⟨h1, h2⟩ := plc_mod hx hy.1
  rw [List.getElem?_map, List.getElem?_range (plc_lt hx hy)]
  show some (D _ _) = _
  rw [h1, h2]
theorem distL_set {wi hi : Nat} (D : DstT) {x y : Int} (hx : 0 ≤ x ∧ x < wi) (hy : 0 ≤ y ∧ y < hi) (v : Int) : (distL wi hi D).set (plcN wi x y) v = distL wi hi (updD D x y v) := by
  refine List.ext_getElem? fun i => ?_
  rw [List.getElem?_set, distL_len]
  by_cases e : plcN wi x y = i
  · subst e
    rw [if_pos rfl, if_pos (plc_lt hx hy), distL_at _ hx hy, updD_at]
  · rw [if_neg e]
    unfold distL
    rw [List.getElem?_map, List.getElem?_map]
    by_cases hi' : i < wi * hi
    · rw [List.getElem?_range hi']
      show some (D _ _) = some (updD D x y v _ _)
      congr 1
      refine (updD_ne fun ⟨h1, h2⟩ => e ?_).symm
      have h3 := plc_int (wi := wi) hx.1 hy.1
      rw [← h1, ← h2] at h3
      have h4 := Nat.div_add_mod i wi
      have h5 : ((i / wi * wi + i % wi : Nat) : Int) = (plcN wi ((i % wi : Nat) : Int) ((i / wi : Nat) : Int) : Int) := by rw [← h3, Int.natCast_add, Int.natCast_mul]
      rw [Nat.mul_comm] at h4
      have h6 : i / wi * wi + i % wi = i := h4
      rw [h6] at h5
      rw [← h1, ← h2]
      omega
    · rw [List.getElem?_eq_none (by rw [List.length_range]; omega)]
      rfl
/-- All distances, none known. -/
theorem distL_none (wi hi : Nat) : distL wi hi (fun _ _ => -1) = List.replicate (wi * hi) (-1) := by
  unfold distL
  refine List.ext_getElem? fun i => ?_
  rw [List.getElem?_map, List.getElem?_replicate]
  by_cases h : i < wi * hi
  · rw [List.getElem?_range h, if_pos h]; rfl
  · rw [List.getElem?_eq_none (by rw [List.length_range]; omega), if_neg h]; rfl
/-- The piece that is hit from a side and hits on another one. -/
def goesP (k f o : Int) (t : Nat) : Bool := decide (0 < hitsG k (t : Int) f) && decide (hitsG k (t : Int) f / 2 ^ o.toNat % 2 = 1)
def kindP (f o : Int) : Int := if (f + 2) % 4 = o then 0 else 1
def turnP (f o : Int) : Nat := if goesP (kindP f o) f o 0 = true then 0 else if goesP (kindP f o) f o 1 = true then 1 else if goesP (kindP f o) f o 2 = true then 2 else 3
def pieceP (c : Ce) (f o : Int) : Pc := ⟨c.x, c.y, kindP f o, (turnP f o : Nat), 1⟩
theorem turn_ok {f o : Int} (hf : 0 ≤ f ∧ f ≤ 3) (ho : 0 ≤ o ∧ o ≤ 3) (hne : f ≠ o) : turnP f o ≤ 3 ∧ goesP (kindP f o) f o (turnP f o) = true ∧ ∀ t, t < turnP f o → goesP (kindP f o) f o t = false := by
  have h1 : f = 0 ∨ f = 1 ∨ f = 2 ∨ f = 3 := by omega
  have h2 : o = 0 ∨ o = 1 ∨ o = 2 ∨ o = 3 := by omega
  rcases h1 with rfl | rfl | rfl | rfl <;> rcases h2 with rfl | rfl | rfl | rfl <;> first | exact absurd rfl hne | decide
/-- The sides of the cells of a line. -/
def fromW (P : List Ce) (side : Int) (i : Nat) : Int := match i with
  | 0 => side
  | j + 1 => sideG (P.getD (j + 1) ⟨0, 0⟩).x (P.getD (j + 1) ⟨0, 0⟩).y (P.getD j ⟨0, 0⟩).x (P.getD j ⟨0, 0⟩).y
def toW (P : List Ce) (out : Int) (i : Nat) : Int := if i + 1 < P.length then sideG (P.getD i ⟨0, 0⟩).x (P.getD i ⟨0, 0⟩).y (P.getD (i + 1) ⟨0, 0⟩).x (P.getD (i + 1) ⟨0, 0⟩).y else out
def linePc (P : List Ce) (side out : Int) (i : Nat) : Pc := pieceP (P.getD i ⟨0, 0⟩) (fromW P side i) (toW P out i)
def lineL (P : List Ce) (side out : Int) : List Pc := (List.range P.length).map (linePc P side out)
theorem lineL_len (P : List Ce) (side out : Int) : (lineL P side out).length = P.length := by unfold lineL; rw [List.length_map, List.length_range]
theorem getD_of {P : List Ce} {i : Nat} {p : Ce} (h : P[i]? = some p) : P.getD i ⟨0, 0⟩ = p := by rw [List.getD_eq_getElem?_getD, h]; rfl
/-- A side on which the other cell is, and its opposite. -/
theorem sideG_nx (x y : Int) (s : Nat) (hs : s < 4) : sideG x y (nx x s) (ny y s) = s := by
  have : s = 0 ∨ s = 1 ∨ s = 2 ∨ s = 3 := by omega
  refine sideG_at hs (fun j hj => ?_) ?_
  · unfold onSide
    rw [decide_eq_false_iff_not]
    rcases this with rfl | rfl | rfl | rfl <;> (have hj' : j = 0 ∨ j = 1 ∨ j = 2 := by omega) <;> rcases hj' with rfl | rfl | rfl <;> simp [nx, ny] <;> omega
  · unfold onSide
    simp
theorem sideG_eq {x y a b : Int} {s : Int} (h : sideG x y a b = s) (hs : 0 ≤ s) : s ≤ 3 ∧ a = nx x s ∧ b = ny y s := by
  unfold sideG at h
  unfold onSide at h
  split at h
  · rename_i e; subst h; simp only [decide_eq_true_eq] at e; exact ⟨by omega, e.1.symm, e.2.symm⟩
  · split at h
    · rename_i e; subst h; simp only [decide_eq_true_eq] at e; exact ⟨by omega, e.1.symm, e.2.symm⟩
    · split at h
      · rename_i e; subst h; simp only [decide_eq_true_eq] at e; exact ⟨by omega, e.1.symm, e.2.symm⟩
      · split at h
        · rename_i e; subst h; simp only [decide_eq_true_eq] at e; exact ⟨by omega, e.1.symm, e.2.symm⟩
        · omega
/-- Cells of a line, none of the ends among them: each piece is hit from one side and hits on another one. -/
structure LineOk (P : List Ce) (side out : Int) : Prop where
  n : 0 < P.length
  sd : 0 ≤ side ∧ side ≤ 3
  ot : 0 ≤ out ∧ out ≤ 3
  one : P.length = 1 → side ≠ out
  adj : ∀ (i : Nat) (p q : Ce), P[i]? = some p → P[i + 1]? = some q → (∃ s : Nat, s < 4 ∧ q = ⟨nx p.x s, ny p.y s⟩) ∧ (∃ s : Nat, s < 4 ∧ p = ⟨nx q.x s, ny q.y s⟩)
  nd : ∀ (i j : Nat) (p : Ce), P[i]? = some p → P[j]? = some p → i = j
  h0 : ∀ p : Ce, P[0]? = some p → ∀ i : Nat, P[i]? ≠ some (⟨nx p.x side, ny p.y side⟩ : Ce)
  h1 : ∀ p : Ce, P[P.length - 1]? = some p → ∀ i : Nat, P[i]? ≠ some (⟨nx p.x out, ny p.y out⟩ : Ce)
theorem LineOk.sides {P : List Ce} {side out : Int} (h : LineOk P side out) {i : Nat} (hi : i < P.length) : (0 ≤ fromW P side i ∧ fromW P side i ≤ 3) ∧ (0 ≤ toW P out i ∧ toW P out i ≤ 3) ∧ fromW P side i ≠ toW P out i := by
  have hp : P[i]? = some P[i] := List.getElem?_eq_getElem hi
  have hF : (i = 0 ∧ fromW P side i = side) ∨ (∃ (j : Nat) (p : Ce) (s : Nat), i = j + 1 ∧ P[j]? = some p ∧ s < 4 ∧ p = ⟨nx P[i].x s, ny P[i].y s⟩ ∧ fromW P side i = s) := by
    cases i with
    | zero => exact .inl ⟨rfl, rfl⟩
    | succ j =>
      have hj : P[j]? = some P[j] := List.getElem?_eq_getElem (by omega)
      obtain ⟨_, s, hs, e⟩ := h.adj j _ _ hj hp
      refine .inr ⟨j, P[j], s, rfl, hj, hs, e, ?_⟩
      show sideG (P.getD (j + 1) ⟨0, 0⟩).x (P.getD (j + 1) ⟨0, 0⟩).y (P.getD j ⟨0, 0⟩).x (P.getD j ⟨0, 0⟩).y = _
      rw [getD_of hp, getD_of hj, e]
      exact sideG_nx _ _ s hs
  have hT : (i + 1 = P.length ∧ toW P out i = out) ∨ (∃ (q : Ce) (s : Nat), P[i + 1]? = some q ∧ s < 4 ∧ q = ⟨nx P[i].x s, ny P[i].y s⟩ ∧ toW P out i = s) := by
    by_cases hl : i + 1 < P.length
    · have hj : P[i + 1]? = some P[i + 1] := List.getElem?_eq_getElem hl
      obtain ⟨⟨s, hs, e⟩, _⟩ := h.adj i _ _ hp hj
      refine .inr ⟨P[i + 1], s, hj, hs, e, ?_⟩
      unfold toW
      rw [if_pos hl, getD_of hp, getD_of hj, e]
      exact sideG_nx _ _ s hs
    · refine .inl ⟨by omega, ?_⟩
      unfold toW
      rw [if_neg hl]
  have h1 := h.sd
  have h2 := h.ot
  rcases hF with ⟨e0, eF⟩ | ⟨j, p, s, ej, hpj, hs, ep, eF⟩
  · rcases hT with ⟨e1, eT⟩ | ⟨q, t, hq, ht, eq, eT⟩
    · rw [eF, eT]
      exact ⟨h1, h2, h.one (by omega)⟩
    · rw [eF, eT]
      refine ⟨h1, by omega, fun e => ?_⟩
      subst e0
      refine h.h0 _ hp 1 ?_
      rw [e]
      exact hq.trans (by rw [eq])
  · rcases hT with ⟨e1, eT⟩ | ⟨q, t, hq, ht, eq, eT⟩
    · rw [eF, eT]
      refine ⟨by omega, h2, fun e => ?_⟩
      refine h.h1 P[i] (by rw [← e1, Nat.add_sub_cancel]; exact hp) j ?_
      rw [← e]
      exact hpj.trans (by rw [ep])
    · rw [eF, eT]
      refine ⟨by omega, by omega, fun e => ?_⟩
      have est : s = t := by omega
      subst est
      have := h.nd j (i + 1) p hpj (by rw [hq, eq, ep])
      omega
end Go.Proofs.Ytgkgklgeobbmlaa
