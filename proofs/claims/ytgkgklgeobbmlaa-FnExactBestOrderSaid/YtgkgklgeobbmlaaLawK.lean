/-
  Words for a law's region that draws its order and lays a board into a box of its own.
  Conditions: none; general lemmas.
-/
import Derived.Test.YtgkgklgeobbmlaaLineX
import Derived.Test.YtgkgklgeobbmlaaOb
namespace Go.Proofs.Ytgkgklgeobbmlaa
open Go.RowKit
set_option linter.unusedSimpArgs false
set_option linter.unusedVariables false

theorem nineL {W W1 : World} {p1 p2 : Nat} {v0 v1 v2 u0 u1 u2 u3 u4 u5 : Value}
    (h : W.cell? ⟨p1, 0, none⟩ = some v0 ∧ W.cell? ⟨p1, 1, none⟩ = some v1 ∧ W.cell? ⟨p1, 2, none⟩ = some v2 ∧ W.cell? ⟨p2, 0, none⟩ = some u0 ∧ W.cell? ⟨p2, 1, none⟩ = some u1 ∧ W.cell? ⟨p2, 2, none⟩ = some u2 ∧ W.cell? ⟨p2, 3, none⟩ = some u3 ∧ W.cell? ⟨p2, 4, none⟩ = some u4 ∧ W.cell? ⟨p2, 5, none⟩ = some u5) (hb : Below W.heap.size W W1) :
    W1.cell? ⟨p1, 0, none⟩ = some v0 ∧ W1.cell? ⟨p1, 1, none⟩ = some v1 ∧ W1.cell? ⟨p1, 2, none⟩ = some v2 ∧ W1.cell? ⟨p2, 0, none⟩ = some u0 ∧ W1.cell? ⟨p2, 1, none⟩ = some u1 ∧ W1.cell? ⟨p2, 2, none⟩ = some u2 ∧ W1.cell? ⟨p2, 3, none⟩ = some u3 ∧ W1.cell? ⟨p2, 4, none⟩ = some u4 ∧ W1.cell? ⟨p2, 5, none⟩ = some u5 :=
  ⟨cell_on hb h.1, cell_on hb h.2.1, cell_on hb h.2.2.1, cell_on hb h.2.2.2.1, cell_on hb h.2.2.2.2.1, cell_on hb h.2.2.2.2.2.1, cell_on hb h.2.2.2.2.2.2.1, cell_on hb h.2.2.2.2.2.2.2.1, cell_on hb h.2.2.2.2.2.2.2.2⟩
theorem BoQ.store3 {w : World} {b : Nat} {wi hi wi2 hi2 : Int} {A B : Option Addr} {n c m d : Nat} (h : BoQ w b wi hi A n c) : BoQ (((w.setCell ⟨b, 0, none⟩ (.int .i8 wi2)).setCell ⟨b, 1, none⟩ (.int .i8 hi2)).setCell ⟨b, 2, none⟩ (.slice B m d)) b wi2 hi2 B m d := by
  refine ⟨by simpa using h.lt, ?_, ?_, ?_, fun j => by rw [World.frozen?_setCell, World.frozen?_setCell, World.frozen?_setCell]; exact h.fz j⟩
  · rw [World.cell?_setCell_other _ _ _ _ (by simp), World.cell?_setCell_other _ _ _ _ (by simp), World.cell?_setCell_same _ _ _ h.c0]
  · rw [World.cell?_setCell_other _ _ _ _ (by simp)]
    refine World.cell?_setCell_same (u := .int .i8 hi) _ _ _ ?_
    rw [World.cell?_setCell_other _ _ _ _ (by simp)]
    exact h.c1
  · refine World.cell?_setCell_same (u := .slice A n c) _ _ _ ?_
    rw [World.cell?_setCell_other _ _ _ _ (by simp), World.cell?_setCell_other _ _ _ _ (by simp)]
    exact h.c2
theorem Ob.far {α : Type} {enc : α → List Value} {n : Nat} {E : TypeId} {b0 lo hi q : Nat} {w w1 : World} {A : Option Addr} {c : Nat} {xs : List α} (h : Ob enc n E b0 lo hi w A c xs) (hg : w.grownBy w1 (some q)) (hd : q < lo ∨ hi ≤ q) : Ob enc n E b0 lo hi w1 A c xs := by
  refine ⟨h.own.kept hg ?_, h.lt, h.base, Nat.le_trans h.top hg.size⟩
  rw [ownBlock_slice]
  cases e : A.map (·.block) with
  | none => exact .inl rfl
  | some k =>
    refine .inr fun e2 => ?_
    have a1 := h.lt k e
    have a2 := h.ge k e
    injection e2 with e2
    omega
theorem Ob.set3 {α : Type} {enc : α → List Value} {n : Nat} {E : TypeId} {b0 lo hi q : Nat} {w : World} {A : Option Addr} {c : Nat} {xs : List α} {v0 v1 v2 : Value} (h : Ob enc n E b0 lo hi w A c xs) (hd : q < lo ∨ hi ≤ q) : Ob enc n E b0 lo hi (((w.setCell ⟨q, 0, none⟩ v0).setCell ⟨q, 1, none⟩ v1).setCell ⟨q, 2, none⟩ v2) A c xs :=
  ((h.far (setCell_grownE _ _ _ _) hd).far (setCell_grownE _ _ _ _) hd).far (setCell_grownE _ _ _ _) hd
theorem cell_mark3 {α : Type} {enc : α → List Value} {n : Nat} {E : TypeId} {b0 lo hi : Nat} {w w1 : World} {A : Option Addr} {c : Nat} {xs : List α} (h : Ob enc n E b0 lo hi w A c xs) {a : Addr} {v : Value} (hc : w.cell? a = some v) (hg : w.grownBy w1 (A.map (·.block))) (hne : a.block < lo ∨ hi ≤ a.block) : w1.cell? a = some v := by
  refine hg.cell hc fun e => ?_
  have h1 := h.lt _ e.symm
  have h2 := h.ge _ e.symm
  omega
theorem qn_a {α : Type} {enc : α → List Value} {n m c1 : Nat} {E : TypeId} {b0 hi q : Nat} {wi hj : Int} {W w : World} {A A1 : Option Addr} {c : Nat} {xs : List α} (h : Ob enc n E b0 W.heap.size hi w A c xs) (hq : BoQ W q wi hj A1 m c1) : q < W.heap.size ∨ hi ≤ q := .inl hq.lt
theorem qn_b {α : Type} {enc : α → List Value} {n : Nat} {E : TypeId} {b0 lo hi : Nat} {w : World} {A : Option Addr} {c : Nat} {xs : List α} (h : Ob enc n E b0 lo hi w A c xs) : hi < lo ∨ hi ≤ hi := .inr (Nat.le_refl _)
theorem below_set3 {B q : Nat} {w w1 : World} {v0 v1 v2 : Value} (h : Below B w w1) (hq : B ≤ q) : Below B w (((w1.setCell ⟨q, 0, none⟩ v0).setCell ⟨q, 1, none⟩ v1).setCell ⟨q, 2, none⟩ v2) :=
  ((h.setCell (p := ⟨q, 0, none⟩) hq _).setCell (p := ⟨q, 1, none⟩) hq _).setCell (p := ⟨q, 2, none⟩) hq _
end Go.Proofs.Ytgkgklgeobbmlaa
