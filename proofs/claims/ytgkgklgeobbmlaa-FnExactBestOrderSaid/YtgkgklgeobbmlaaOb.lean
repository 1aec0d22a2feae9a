/-
  Rows of a call's own, each with the stretch of block numbers in which it lies, so that two of them are known apart.
  A cell in a block above a row that is written.
  Conditions: none; general lemmas.
-/
import Derived.Test.YtgkgklgeobbmlaaBase
namespace Go.Proofs.Ytgkgklgeobbmlaa
open Go.RowKit

structure Ob {α : Type} (enc : α → List Value) (n : Nat) (E : TypeId) (b0 lo hi : Nat) (w : World) (A : Option Addr) (c : Nat) (xs : List α) : Prop where
  own : w.ownsRow lo E n (.slice A xs.length c) xs.length (xs.flatMap enc)
  lt : ∀ k, A.map (·.block) = some k → k < hi
  base : b0 ≤ lo
  top : hi ≤ w.heap.size
section
variable {α : Type} {enc : α → List Value} {n : Nat} {E : TypeId} {b0 lo hi : Nat} {w : World} {A : Option Addr} {c : Nat} {xs : List α}
theorem ownBlock_slice (A : Option Addr) (n c : Nat) : (Value.slice A n c).ownBlock = A.map (·.block) := by cases A <;> rfl
theorem Ob.new (h : w.ownsRow lo E n (.slice A xs.length c) xs.length (xs.flatMap enc)) (hb : b0 ≤ lo) : Ob enc n E b0 lo w.heap.size w A c xs :=
  ⟨h, fun k hk => (h.lt k (by rw [ownBlock_slice]; exact hk)).2, hb, Nat.le_refl _⟩
theorem Ob.step {w1 : World} (h : Ob enc n E b0 lo hi w A c xs) (hb : Below w.heap.size w w1) : Ob enc n E b0 lo hi w1 A c xs :=
  ⟨own_step h.own hb, h.lt, h.base, Nat.le_trans h.top hb.size⟩
theorem Ob.ge (h : Ob enc n E b0 lo hi w A c xs) : ∀ k, A.map (·.block) = some k → lo ≤ k := fun k hk => (h.own.lt k (by rw [ownBlock_slice]; exact hk)).1
theorem Ob.sla (hn : ∀ p, (enc p).length = n) (h : Ob enc n E b0 lo hi w A c xs) : SlA enc n w A xs := SlA.of_own hn h.own
theorem Ob.nilcap (h : Ob enc n E b0 lo hi w A c xs) : A = none → c = 0 := by
  intro e
  subst e
  exact own_nil_cap h.own
/-- Another row has been written. -/
theorem Ob.other {β : Type} {en2 : β → List Value} {n2 : Nat} {E2 : TypeId} {c0 lo2 hi2 : Nat} {A2 : Option Addr} {c2 : Nat} {ys : List β} {w1 : World}
    (h : Ob enc n E b0 lo hi w A c xs) (h2 : Ob en2 n2 E2 c0 lo2 hi2 w A2 c2 ys) (hg : w.grownBy w1 (A2.map (·.block))) (hd : hi ≤ lo2 ∨ hi2 ≤ lo) : Ob enc n E b0 lo hi w1 A c xs := by
  refine ⟨h.own.kept hg ?_, h.lt, h.base, Nat.le_trans h.top hg.size⟩
  rw [ownBlock_slice]
  cases e : A.map (·.block) with
  | none => exact .inl rfl
  | some k =>
    refine .inr fun e2 => ?_
    have a1 := h.lt k e
    have a2 := h.ge k e
    have a3 := h2.lt k e2.symm
    have a4 := h2.ge k e2.symm
    omega
/-- The row itself has been written anew. -/
theorem Ob.marked {ys : List α} {w1 : World} (h : Ob enc n E b0 lo hi w A c xs) (hl : ys.length = xs.length) (hown : w1.ownsRow lo E n (.slice A xs.length c) xs.length (ys.flatMap enc)) (hg : w.grownBy w1 (A.map (·.block))) : Ob enc n E b0 lo hi w1 A c ys :=
  ⟨by rw [hl]; exact hown, h.lt, h.base, Nat.le_trans h.top hg.size⟩
theorem Ob.below {w0 w1 : World} (h : Ob enc n E w0.heap.size lo hi w A c xs) (hb : Below w0.heap.size w0 w) (hg : w.grownBy w1 (A.map (·.block))) : Below w0.heap.size w0 w1 :=
  hb.grown hg hb.size (fun k hk => Nat.le_trans h.base (h.ge k hk))
end
theorem cell_on {w w1 : World} (h : Below w.heap.size w w1) {a : Addr} {v : Value} (hc : w.cell? a = some v) : w1.cell? a = some v := (h.cell (World.block_lt_of_cell? w a hc)).trans hc
theorem cell_mark {α : Type} {enc : α → List Value} {n : Nat} {E : TypeId} {b0 lo hi : Nat} {w w1 : World} {A : Option Addr} {c : Nat} {xs : List α} (h : Ob enc n E b0 lo hi w A c xs) {a : Addr} {v : Value} (hc : w.cell? a = some v) (hg : w.grownBy w1 (A.map (·.block))) (hne : a.block < lo) : w1.cell? a = some v := by
  refine hg.cell hc fun e => ?_
  have := h.ge _ e.symm
  omega
theorem dec_self {α : Type} [DecidableEq α] (x : α) : decide (x = x) = true := by simp
/-- Whole numbers as one cell each. -/
def en1 (x : Int) : List Value := [.int .i64 x]
theorem en1_length (x : Int) : (en1 x).length = 1 := rfl
theorem en1_flat (xs : List Int) : xs.flatMap en1 = xs.map (Value.int .i64) := by
  induction xs with
  | nil => rfl
  | cons x xs ih => simp [en1, ih]
theorem cell_mark2 {α : Type} {enc : α → List Value} {n : Nat} {E : TypeId} {b0 lo hi : Nat} {w w1 : World} {A : Option Addr} {c : Nat} {xs : List α} (h : Ob enc n E b0 lo hi w A c xs) {a : Addr} {v : Value} (hc : w.cell? a = some v) (hg : w.grownBy w1 (A.map (·.block))) (hne : hi ≤ a.block) : w1.cell? a = some v := by
  refine hg.cell hc fun e => ?_
  have := h.lt _ e.symm
  omega
end Go.Proofs.Ytgkgklgeobbmlaa
