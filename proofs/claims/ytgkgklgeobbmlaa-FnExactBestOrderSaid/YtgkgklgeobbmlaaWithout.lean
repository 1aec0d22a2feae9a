/-
  WithoutPieces, both the program's and the reference's.
  Conditions: the fields are in their kinds' ranges.
-/
import Derived.Test.YtgkgklgeobbmlaaGapsB
import Derived.Test.YtgkgklgeobbmlaaApp
import Derived.Deep.RegionLaw
import Derived.Deep.AppendLies
namespace Go.Proofs.Ytgkgklgeobbmlaa
open Go.RowKit
set_option linter.unusedSimpArgs false
set_option linter.unusedVariables false

/-- The pieces that are left without those of some numbers. -/
def keepL (gs : List Int) : Nat → List Pc → List Pc
  | _, [] => []
  | i, p :: l => if gs.any (isN (i : Int)) = true then keepL gs (i + 1) l else p :: keepL gs (i + 1) l
theorem keepL_snoc (gs : List Int) (p : Pc) : ∀ (l : List Pc) (i : Nat), keepL gs i (l ++ [p]) = keepL gs i l ++ (if gs.any (isN ((i + l.length : Nat) : Int)) = true then [] else [p])
  | [], i => by simp [keepL]
  | q :: l, i => by
    have := keepL_snoc gs p l (i + 1)
    simp only [List.cons_append, keepL, this, List.length_cons]
    rw [show i + 1 + l.length = i + (l.length + 1) by omega]
    split <;> simp
theorem keepL_len (gs : List Int) : ∀ (l : List Pc) (i : Nat), (keepL gs i l).length ≤ l.length
  | [], i => by simp [keepL]
  | q :: l, i => by
    have := keepL_len gs l (i + 1)
    unfold keepL
    split
    · simp; omega
    · simp; omega
theorem keepL_step {gs : List Int} {xs : List Pc} {k : Nat} {p : Pc} (hp : xs[k]? = some p) : keepL gs 0 (xs.take (k + 1)) = keepL gs 0 (xs.take k) ++ (if gs.any (isN (k : Int)) = true then [] else [p]) := by
  have hk : k < xs.length := (List.getElem?_eq_some_iff.1 hp).1
  rw [List.take_add_one, hp]
  show keepL gs 0 (xs.take k ++ [p]) = _
  rw [keepL_snoc, List.length_take, Nat.zero_add, Nat.min_eq_left (by omega)]
/-- A board in a box that is written. -/
structure BoxB (w : World) (q : Nat) (wi hi : Int) (A : Option Addr) (n c : Nat) : Prop where
  bd : BdA w q wi hi A n c
  z0 : w.frozen? ⟨q, 0, none⟩ = false
  z1 : w.frozen? ⟨q, 1, none⟩ = false
  z2 : w.frozen? ⟨q, 2, none⟩ = false
theorem BoxB.below {w w1 : World} {q : Nat} {wi hi : Int} {A : Option Addr} {n c B : Nat} (h : BoxB w q wi hi A n c) (hb : Below B w w1) (hB : q < B) : BoxB w1 q wi hi A n c :=
  ⟨h.bd.below hb hB, (hb.frozen (p := ⟨q, _, none⟩) hB).trans h.z0, (hb.frozen (p := ⟨q, _, none⟩) hB).trans h.z1, (hb.frozen (p := ⟨q, _, none⟩) hB).trans h.z2⟩
theorem BoxB.kept {w w1 : World} {q : Nat} {wi hi : Int} {A : Option Addr} {n c : Nat} {row : Option Nat} (h : BoxB w q wi hi A n c) (hg : w.grownBy w1 row) (hne : some q ≠ row) : BoxB w1 q wi hi A n c :=
  ⟨h.bd.kept hg hne, (World.frozen?_of_block (a := ⟨q, _, none⟩) (hg.block q h.bd.lt hne)).trans h.z0, (World.frozen?_of_block (a := ⟨q, _, none⟩) (hg.block q h.bd.lt hne)).trans h.z1, (World.frozen?_of_block (a := ⟨q, _, none⟩) (hg.block q h.bd.lt hne)).trans h.z2⟩
theorem setCell_grown (w : World) (q j : Nat) (v : Value) : w.grownBy (w.setCell ⟨q, j, none⟩ v) (some q) :=
  ⟨rfl, rfl, rfl, by simp, fun k _ hk => heap_setCell_other w ⟨q, j, none⟩ k v (fun e => hk (by simp [e]))⟩
theorem BoxB.store {w : World} {q : Nat} {wi hi : Int} {A : Option Addr} {n c : Nat} (h : BoxB w q wi hi A n c) (A2 : Option Addr) (n2 c2 : Nat) : BoxB (w.setCell ⟨q, 2, none⟩ (.slice A2 n2 c2)) q wi hi A2 n2 c2 := by
  obtain ⟨⟨h0, h1, h2, h3⟩, z0, z1, z2⟩ := h
  exact ⟨⟨by simpa using h0, by simp [go_sem, h1], by simp [go_sem, h2], by rw [World.cell?_setCell_same w _ _ h3]⟩, by simp [go_sem, z0], by simp [go_sem, z1], by simp [go_sem, z2]⟩
/-- A function hands back a board of its own. -/
def ResBd (w : World) (wi hi : Int) (R : List Pc) (e : Ending) (w' : World) : Prop :=
  ∃ A c, e = .returned (.agg #[.int .i8 wi, .int .i8 hi, .slice A R.length c]) ∧ Below w.heap.size w w' ∧ w'.ownsRow w.heap.size 98 5 (.slice A R.length c) R.length (R.flatMap Pc.enc)
/-- .. and a code. -/
def ResB (w : World) (wi hi : Int) (R : List Pc) (cd : Int) (e : Ending) (w' : World) : Prop :=
  ∃ A c, e = .returned (.tuple #[.agg #[.int .i8 wi, .int .i8 hi, .slice A R.length c], .int .i64 cd]) ∧ Below w.heap.size w w' ∧ w'.ownsRow w.heap.size 98 5 (.slice A R.length c) R.length (R.flatMap Pc.enc)
end Go.Proofs.Ytgkgklgeobbmlaa
