/-
  The program's clock: its box and its rows, as they lie and as they begin.
  Conditions: the board, its pushes and spans are right.
-/
import Derived.Test.YtnabedhhflfepaaFind
import Derived.Test.YtnabedhhflfepaaStage
import Derived.Test.YtnabedhhflfepaaClkX
import Derived.Deep.CutRange
import Derived.Deep.RegionHeld3
namespace Go.Proofs.Ytnabedhhflfepaa
open Go.RowKit
set_option linter.unusedSimpArgs false
set_option linter.unusedVariables false

theorem TuA.setn {w : World} {g n tb j : Nat} {E : Nat → Nat} (h : TuA w g n E) (hn : g ≠ tb) (v : Value) : TuA (w.setCell ⟨tb, j, none⟩ v) g n E := h.kept (store_grown _ _ _ _) (by simpa using hn)
theorem U8A.setn {w : World} {g n tb j : Nat} {f : Nat → Int} (h : U8A w g n f) (hn : g ≠ tb) (v : Value) : U8A (w.setCell ⟨tb, j, none⟩ v) g n f := h.only (Only.of_grown (g := tb) (store_grown _ _ _ _) (List.mem_singleton.2 rfl)) (by simpa using hn)
theorem sameL_comm {m : Nat} {A B : Nat → Nat} : sameL m A B = sameL m B A := by
  rw [Bool.eq_iff_iff, sameL_iff, sameL_iff]
  exact ⟨fun h y hy => (h y hy).symm, fun h y hy => (h y hy).symm⟩
/-- The box of the clock, ahead of which all else lies. -/
structure Sx (X w : World) (V0 V1 V2 V3 V4 V5 : Value) : Prop where
  below : Below X.heap.size X w
  x0 : w.cell? ⟨X.heap.size, 0, none⟩ = some V0
  x1 : w.cell? ⟨X.heap.size, 1, none⟩ = some V1
  x2 : w.cell? ⟨X.heap.size, 2, none⟩ = some V2
  x3 : w.cell? ⟨X.heap.size, 3, none⟩ = some V3
  x4 : w.cell? ⟨X.heap.size, 4, none⟩ = some V4
  x5 : w.cell? ⟨X.heap.size, 5, none⟩ = some V5
  fz : Fz w X.heap.size
section
variable {X w w1 : World} {V0 V1 V2 V3 V4 V5 : Value}
theorem Sx.lt (h : Sx X w V0 V1 V2 V3 V4 V5) : X.heap.size < w.heap.size := World.block_lt_of_cell? w ⟨X.heap.size, 0, none⟩ h.x0
theorem Sx.next (h : Sx X w V0 V1 V2 V3 V4 V5) (hb : Below w.heap.size w w1) : Sx X w1 V0 V1 V2 V3 V4 V5 :=
  ⟨h.below.trans (hb.mono h.below.size), cell_on hb h.x0, cell_on hb h.x1, cell_on hb h.x2, cell_on hb h.x3, cell_on hb h.x4, cell_on hb h.x5, h.fz.below hb h.lt⟩
theorem Sx.set3 (h : Sx X w V0 V1 V2 V3 V4 V5) (v : Value) : Sx X (w.setCell ⟨X.heap.size, 3, none⟩ v) V0 V1 V2 v V4 V5 :=
  ⟨h.below.setCell (Nat.le_refl _) _, (World.cell?_setCell_other _ _ _ _ (by intro x; simp at x)).trans h.x0, (World.cell?_setCell_other _ _ _ _ (by intro x; simp at x)).trans h.x1, (World.cell?_setCell_other _ _ _ _ (by intro x; simp at x)).trans h.x2, World.cell?_setCell_same _ _ _ h.x3, (World.cell?_setCell_other _ _ _ _ (by intro x; simp at x)).trans h.x4, (World.cell?_setCell_other _ _ _ _ (by intro x; simp at x)).trans h.x5, h.fz.set _ _⟩
theorem Sx.set4 (h : Sx X w V0 V1 V2 V3 V4 V5) (v : Value) : Sx X (w.setCell ⟨X.heap.size, 4, none⟩ v) V0 V1 V2 V3 v V5 :=
  ⟨h.below.setCell (Nat.le_refl _) _, (World.cell?_setCell_other _ _ _ _ (by intro x; simp at x)).trans h.x0, (World.cell?_setCell_other _ _ _ _ (by intro x; simp at x)).trans h.x1, (World.cell?_setCell_other _ _ _ _ (by intro x; simp at x)).trans h.x2, (World.cell?_setCell_other _ _ _ _ (by intro x; simp at x)).trans h.x3, World.cell?_setCell_same _ _ _ h.x4, (World.cell?_setCell_other _ _ _ _ (by intro x; simp at x)).trans h.x5, h.fz.set _ _⟩
theorem Sx.set5 (h : Sx X w V0 V1 V2 V3 V4 V5) (v : Value) : Sx X (w.setCell ⟨X.heap.size, 5, none⟩ v) V0 V1 V2 V3 V4 v :=
  ⟨h.below.setCell (Nat.le_refl _) _, (World.cell?_setCell_other _ _ _ _ (by intro x; simp at x)).trans h.x0, (World.cell?_setCell_other _ _ _ _ (by intro x; simp at x)).trans h.x1, (World.cell?_setCell_other _ _ _ _ (by intro x; simp at x)).trans h.x2, (World.cell?_setCell_other _ _ _ _ (by intro x; simp at x)).trans h.x3, (World.cell?_setCell_other _ _ _ _ (by intro x; simp at x)).trans h.x4, World.cell?_setCell_same _ _ _ h.x5, h.fz.set _ _⟩
end
/-- The clock's box with its rows. -/
def TmE (X w : World) (T : StgD) (V1 V2 : Value) (R : Rd) : Prop := ∃ eg lg mg ec lc mc, Sx X w (.pointer (some ⟨T.sb, 0, none⟩)) V1 V2 (.slice (some ⟨eg, 0, none⟩) T.xs.length ec) (.slice (some ⟨lg, 0, none⟩) T.xs.length lc) (.slice (some ⟨mg, 0, none⟩) T.xs.length mc) ∧
  TuA w eg T.xs.length R.E ∧ TuA w lg T.xs.length R.L ∧ U8A w mg T.xs.length (fun i => sBits (R.S i)) ∧ eg ≠ X.heap.size ∧ lg ≠ X.heap.size ∧ mg ≠ X.heap.size
/-- What the first stores read. -/
structure SixF (v : World) (b tb : Nat) (V : Value) : Prop where
  p0 : v.cell? ⟨b, 2, none⟩ = some V
  x3 : v.cell? ⟨tb, 3, none⟩ = some (.slice none 0 0)
  x4 : v.cell? ⟨tb, 4, none⟩ = some (.slice none 0 0)
  x5 : v.cell? ⟨tb, 5, none⟩ = some (.slice none 0 0)
  fz : Fz v tb
theorem SixF.below {w v : World} {b tb : Nat} {V : Value} (h : SixF w b tb V) (hb : Below w.heap.size w v) : SixF v b tb V :=
  ⟨cell_on hb h.p0, cell_on hb h.x3, cell_on hb h.x4, cell_on hb h.x5, h.fz.below hb (World.block_lt_of_cell? w ⟨tb, 3, none⟩ h.x3)⟩
def SixT (v : World) (b tb : Nat) (V : Value) : Prop :=
  (v.cell? ⟨b, 2, none⟩ = some V ∧ ∀ o, (v.alloc o).cell? ⟨b, 2, none⟩ = some V) ∧
  (v.cell? ⟨tb, 3, none⟩ = some (.slice none 0 0) ∧ v.cell? ⟨tb, 4, none⟩ = some (.slice none 0 0) ∧ v.cell? ⟨tb, 5, none⟩ = some (.slice none 0 0)) ∧
  (v.frozen? ⟨tb, 3, none⟩ = false ∧ v.frozen? ⟨tb, 4, none⟩ = false ∧ v.frozen? ⟨tb, 5, none⟩ = false) ∧
  ((∀ o, (v.alloc o).cell? ⟨tb, 3, none⟩ = some (.slice none 0 0)) ∧ (∀ o, (v.alloc o).cell? ⟨tb, 4, none⟩ = some (.slice none 0 0)) ∧ (∀ o, (v.alloc o).cell? ⟨tb, 5, none⟩ = some (.slice none 0 0))) ∧
  ((∀ o, (v.alloc o).frozen? ⟨tb, 3, none⟩ = false) ∧ (∀ o, (v.alloc o).frozen? ⟨tb, 4, none⟩ = false) ∧ (∀ o, (v.alloc o).frozen? ⟨tb, 5, none⟩ = false)) ∧
  ((∀ y o, ((v.setCell ⟨tb, 3, none⟩ y).alloc o).cell? ⟨tb, 4, none⟩ = some (.slice none 0 0)) ∧ (∀ y o, ((v.setCell ⟨tb, 3, none⟩ y).alloc o).cell? ⟨tb, 5, none⟩ = some (.slice none 0 0)) ∧ (∀ y o, ((v.setCell ⟨tb, 3, none⟩ y).alloc o).frozen? ⟨tb, 4, none⟩ = false) ∧ (∀ y o, ((v.setCell ⟨tb, 3, none⟩ y).alloc o).frozen? ⟨tb, 5, none⟩ = false)) ∧
  ((∀ y z o, (((v.setCell ⟨tb, 3, none⟩ y).setCell ⟨tb, 4, none⟩ z).alloc o).cell? ⟨tb, 5, none⟩ = some (.slice none 0 0)) ∧ (∀ y z o, (((v.setCell ⟨tb, 3, none⟩ y).setCell ⟨tb, 4, none⟩ z).alloc o).frozen? ⟨tb, 5, none⟩ = false))
theorem SixF.all {v : World} {b tb : Nat} {V : Value} (h : SixF v b tb V) : SixT v b tb V := by
  have A : ∀ (v : World) o, Below v.heap.size v (v.alloc o) := fun v o => (Below.refl _ _).alloc (Nat.le_refl _) o
  have s4 : ∀ y, (v.setCell ⟨tb, 3, none⟩ y).cell? ⟨tb, 4, none⟩ = some (.slice none 0 0) := fun y => (World.cell?_setCell_other _ _ _ _ (by intro x; simp at x)).trans h.x4
  have s5 : ∀ y, (v.setCell ⟨tb, 3, none⟩ y).cell? ⟨tb, 5, none⟩ = some (.slice none 0 0) := fun y => (World.cell?_setCell_other _ _ _ _ (by intro x; simp at x)).trans h.x5
  have t5 : ∀ y z, ((v.setCell ⟨tb, 3, none⟩ y).setCell ⟨tb, 4, none⟩ z).cell? ⟨tb, 5, none⟩ = some (.slice none 0 0) := fun y z => (World.cell?_setCell_other _ _ _ _ (by intro x; simp at x)).trans (s5 y)
  have l : ∀ (v : World) (V : Value) j, v.cell? ⟨tb, j, none⟩ = some V → tb < v.heap.size := fun v V j e => World.block_lt_of_cell? v _ e
  have F : ∀ (v : World) o j, Fz v tb → tb < v.heap.size → (v.alloc o).frozen? ⟨tb, j, none⟩ = false := fun v o j hf hl => (hf.below (A v o) hl) j
  exact ⟨⟨h.p0, fun o => cell_on (A v o) h.p0⟩, ⟨h.x3, h.x4, h.x5⟩, ⟨h.fz 3, h.fz 4, h.fz 5⟩, ⟨fun o => cell_on (A v o) h.x3, fun o => cell_on (A v o) h.x4, fun o => cell_on (A v o) h.x5⟩,
    ⟨fun o => F v o 3 h.fz (l _ _ _ h.x3), fun o => F v o 4 h.fz (l _ _ _ h.x3), fun o => F v o 5 h.fz (l _ _ _ h.x3)⟩,
    ⟨fun y o => cell_on (A _ o) (s4 y), fun y o => cell_on (A _ o) (s5 y), fun y o => F _ o 4 (h.fz.set _ _) (l _ _ _ (s4 y)), fun y o => F _ o 5 (h.fz.set _ _) (l _ _ _ (s4 y))⟩,
    ⟨fun y z o => cell_on (A _ o) (t5 y z), fun y z o => F _ o 5 ((h.fz.set _ _).set _ _) (l _ _ _ (t5 y z))⟩⟩
section
variable {W v : World} {b tb : Nat} {V : Value} {o : Obj}
theorem six_a (h : SixF W b tb V) (hb : Below W.drew.heap.size W.drew v) : SixF v b tb V := h.below (((Below.refl _ _).drew).trans (hb.mono (by simp)))
theorem six_b (h : SixF W b tb V) (hb : Below (W.alloc o).drew.heap.size (W.alloc o).drew v) : SixF v b tb V := h.below ((((Below.refl _ _).alloc (Nat.le_refl _) o).drew).trans (hb.mono (by simp)))
theorem six_c (h : SixF W b tb V) (hb : Below W.heap.size W v) : SixF v b tb V := h.below hb
theorem six_d (h : SixF W b tb V) (hb : Below (W.alloc o).heap.size (W.alloc o) v) : SixF v b tb V := h.below ((((Below.refl _ _).alloc (Nat.le_refl _) o)).trans (hb.mono (by simp)))
end
theorem kp_set {w : World} {b j tb i : Nat} {v y : Value} (h : b ≠ tb) (hc : w.cell? ⟨b, j, none⟩ = some v) : (w.setCell ⟨tb, i, none⟩ y).cell? ⟨b, j, none⟩ = some v :=
  (World.cell?_setCell_other _ _ _ _ (by intro x; simp only [Addr.mk.injEq] at x; omega)).trans hc
/-! ### The clock as it begins, in each order -/
section
variable {w2 W3 v1 v2 : World} {T : StgD} {V0 V1 V2 : Value} {N : Net} {eg lg ec lc : Nat} {o : Obj}
theorem sx_a {A B C : Value} (h : Sx w2 W3 V0 V1 V2 A B C) (hb : Below W3.drew.heap.size W3.drew v1) : Sx w2 v1 V0 V1 V2 A B C := h.next (((Below.refl _ _).drew).trans (hb.mono (by simp)))
theorem sx_b {A B C : Value} (h : Sx w2 W3 V0 V1 V2 A B C) (hb : Below (W3.alloc o).drew.heap.size (W3.alloc o).drew v1) : Sx w2 v1 V0 V1 V2 A B C := h.next ((((Below.refl _ _).alloc (Nat.le_refl _) o).drew).trans (hb.mono (by simp)))
theorem fin12 {mg mc : Nat} (S : Sx w2 v2 (.pointer (some ⟨T.sb, 0, none⟩)) V1 V2 (.slice none 0 0) (.slice none 0 0) (.slice none 0 0)) (T1 : TuA v2 eg T.xs.length (fun _ => big)) (T2 : TuA v2 lg T.xs.length (fun _ => big)) (U : U8A v2 mg T.xs.length (fun _ => 0)) (n1 : eg ≠ w2.heap.size) (n2 : lg ≠ w2.heap.size) (n3 : mg ≠ w2.heap.size) :
    TmE w2 (((v2.setCell ⟨w2.heap.size, 3, none⟩ (.slice (some ⟨eg, 0, none⟩) T.xs.length ec)).setCell ⟨w2.heap.size, 4, none⟩ (.slice (some ⟨lg, 0, none⟩) T.xs.length lc)).setCell ⟨w2.heap.size, 5, none⟩ (.slice (some ⟨mg, 0, none⟩) T.xs.length mc)) T V1 V2 (rd N 0) :=
  ⟨eg, lg, mg, ec, lc, mc, ((S.set3 _).set4 _).set5 _, ((T1.setn n1 _).setn n1 _).setn n1 _, ((T2.setn n2 _).setn n2 _).setn n2 _, ((U.setn n3 _).setn n3 _).setn n3 _, n1, n2, n3⟩
theorem fin4 (S : Sx w2 v2 (.pointer (some ⟨T.sb, 0, none⟩)) V1 V2 (.slice none 0 0) (.slice none 0 0) (.slice none 0 0)) (T1 : TuA v2 eg T.xs.length (fun _ => big)) (T2 : TuA v2 lg T.xs.length (fun _ => big)) (n1 : eg ≠ w2.heap.size) (n2 : lg ≠ w2.heap.size) :
    TmE w2 ((((v2.setCell ⟨w2.heap.size, 3, none⟩ (.slice (some ⟨eg, 0, none⟩) T.xs.length ec)).alloc (.cells (madeCells #[.int .u8 0] T.xs.length) 136)).setCell ⟨w2.heap.size, 4, none⟩ (.slice (some ⟨lg, 0, none⟩) T.xs.length lc)).setCell ⟨w2.heap.size, 5, none⟩ (.slice (some ⟨v2.heap.size, 0, none⟩) T.xs.length T.xs.length)) T V1 V2 (rd N 0) := by
  have z := S.lt
  have A : ∀ w : World, Below w.heap.size w (w.alloc (.cells (madeCells #[.int .u8 0] T.xs.length) 136)) := fun w => (Below.refl _ _).alloc (Nat.le_refl _) _
  have t1 := T1.setn (j := 3) n1 (.slice (some ⟨eg, 0, none⟩) T.xs.length ec)
  have t2 := T2.setn (j := 3) n2 (.slice (some ⟨eg, 0, none⟩) T.xs.length ec)
  have U := u8_made (v2.setCell ⟨w2.heap.size, 3, none⟩ (.slice (some ⟨eg, 0, none⟩) T.xs.length ec)) T.xs.length 136
  have e : (v2.setCell ⟨w2.heap.size, 3, none⟩ (.slice (some ⟨eg, 0, none⟩) T.xs.length ec)).heap.size = v2.heap.size := by simp
  rw [e] at U
  exact ⟨eg, lg, v2.heap.size, ec, lc, T.xs.length, (((S.set3 _).next (A _)).set4 _).set5 _, ((t1.below (A _) t1.lt).setn n1 _).setn n1 _, ((t2.below (A _) t2.lt).setn n2 _).setn n2 _, (U.setn (by omega) _).setn (by omega) _, n1, n2, by omega⟩
theorem fin5 (S : Sx w2 v2 (.pointer (some ⟨T.sb, 0, none⟩)) V1 V2 (.slice none 0 0) (.slice none 0 0) (.slice none 0 0)) (T1 : TuA v2 eg T.xs.length (fun _ => big)) (T2 : TuA v2 lg T.xs.length (fun _ => big)) (n1 : eg ≠ w2.heap.size) (n2 : lg ≠ w2.heap.size) :
    TmE w2 ((((v2.setCell ⟨w2.heap.size, 3, none⟩ (.slice (some ⟨eg, 0, none⟩) T.xs.length ec)).setCell ⟨w2.heap.size, 4, none⟩ (.slice (some ⟨lg, 0, none⟩) T.xs.length lc)).alloc (.cells (madeCells #[.int .u8 0] T.xs.length) 136)).setCell ⟨w2.heap.size, 5, none⟩ (.slice (some ⟨v2.heap.size, 0, none⟩) T.xs.length T.xs.length)) T V1 V2 (rd N 0) := by
  have z := S.lt
  have A : ∀ w : World, Below w.heap.size w (w.alloc (.cells (madeCells #[.int .u8 0] T.xs.length) 136)) := fun w => (Below.refl _ _).alloc (Nat.le_refl _) _
  have t1 := (T1.setn (j := 3) n1 (.slice (some ⟨eg, 0, none⟩) T.xs.length ec)).setn (j := 4) n1 (.slice (some ⟨lg, 0, none⟩) T.xs.length lc)
  have t2 := (T2.setn (j := 3) n2 (.slice (some ⟨eg, 0, none⟩) T.xs.length ec)).setn (j := 4) n2 (.slice (some ⟨lg, 0, none⟩) T.xs.length lc)
  have U := u8_made ((v2.setCell ⟨w2.heap.size, 3, none⟩ (.slice (some ⟨eg, 0, none⟩) T.xs.length ec)).setCell ⟨w2.heap.size, 4, none⟩ (.slice (some ⟨lg, 0, none⟩) T.xs.length lc)) T.xs.length 136
  have e : ((v2.setCell ⟨w2.heap.size, 3, none⟩ (.slice (some ⟨eg, 0, none⟩) T.xs.length ec)).setCell ⟨w2.heap.size, 4, none⟩ (.slice (some ⟨lg, 0, none⟩) T.xs.length lc)).heap.size = v2.heap.size := by simp
  rw [e] at U
  exact ⟨eg, lg, v2.heap.size, ec, lc, T.xs.length, (((S.set3 _).set4 _).next (A _)).set5 _, (t1.below (A _) t1.lt).setn n1 _, (t2.below (A _) t2.lt).setn n2 _, U.setn (by omega) _, n1, n2, by omega⟩
theorem goal1 (h : Sx w2 W3 (.pointer (some ⟨T.sb, 0, none⟩)) V1 V2 (.slice none 0 0) (.slice none 0 0) (.slice none 0 0)) (hb1 : Below W3.drew.heap.size W3.drew v1) (hl1 : W3.drew.heap.size ≤ eg) (T1 : TuA v1 eg T.xs.length (fun _ => big)) (hb2 : Below v1.heap.size v1 v2) (hl2 : v1.heap.size ≤ lg) (T2 : TuA v2 lg T.xs.length (fun _ => big)) :
    TmE w2 ((((v2.alloc (.cells (madeCells #[.int .u8 0] T.xs.length) 136)).setCell ⟨w2.heap.size, 3, none⟩ (.slice (some ⟨eg, 0, none⟩) T.xs.length ec)).setCell ⟨w2.heap.size, 4, none⟩ (.slice (some ⟨lg, 0, none⟩) T.xs.length lc)).setCell ⟨w2.heap.size, 5, none⟩ (.slice (some ⟨v2.heap.size, 0, none⟩) T.xs.length T.xs.length)) T V1 V2 (rd N 0) := by
  have z := h.lt
  have q1 := hb1.size
  have q2 := hb2.size
  simp only [World.size_drew] at hl1 q1
  have A : Below v2.heap.size v2 (v2.alloc (.cells (madeCells #[.int .u8 0] T.xs.length) 136)) := (Below.refl _ _).alloc (Nat.le_refl _) _
  have t1 := T1.below hb2 T1.lt
  exact fin12 (((sx_a h hb1).next hb2).next A) (t1.below A t1.lt) (T2.below A T2.lt) (u8_made _ _ _) (by omega) (by omega) (by omega)
theorem goal2 (h : Sx w2 W3 (.pointer (some ⟨T.sb, 0, none⟩)) V1 V2 (.slice none 0 0) (.slice none 0 0) (.slice none 0 0)) (hb1 : Below W3.drew.heap.size W3.drew v1) (hl1 : W3.drew.heap.size ≤ eg) (T1 : TuA v1 eg T.xs.length (fun _ => big)) (hb2 : Below v1.heap.size v1 v2) (hl2 : v1.heap.size ≤ lg) (T2 : TuA v2 lg T.xs.length (fun _ => big)) :
    TmE w2 ((((v2.setCell ⟨w2.heap.size, 3, none⟩ (.slice (some ⟨eg, 0, none⟩) T.xs.length ec)).alloc (.cells (madeCells #[.int .u8 0] T.xs.length) 136)).setCell ⟨w2.heap.size, 4, none⟩ (.slice (some ⟨lg, 0, none⟩) T.xs.length lc)).setCell ⟨w2.heap.size, 5, none⟩ (.slice (some ⟨v2.heap.size, 0, none⟩) T.xs.length T.xs.length)) T V1 V2 (rd N 0) := by
  have z := h.lt
  have q1 := hb1.size
  simp only [World.size_drew] at hl1 q1
  exact fin4 ((sx_a h hb1).next hb2) (T1.below hb2 T1.lt) T2 (by omega) (by omega)
theorem goal3 (h : Sx w2 W3 (.pointer (some ⟨T.sb, 0, none⟩)) V1 V2 (.slice none 0 0) (.slice none 0 0) (.slice none 0 0)) (hb1 : Below W3.drew.heap.size W3.drew v1) (hl1 : W3.drew.heap.size ≤ eg) (T1 : TuA v1 eg T.xs.length (fun _ => big)) (hb2 : Below v1.heap.size v1 v2) (hl2 : v1.heap.size ≤ lg) (T2 : TuA v2 lg T.xs.length (fun _ => big)) :
    TmE w2 ((((v2.setCell ⟨w2.heap.size, 3, none⟩ (.slice (some ⟨eg, 0, none⟩) T.xs.length ec)).setCell ⟨w2.heap.size, 4, none⟩ (.slice (some ⟨lg, 0, none⟩) T.xs.length lc)).alloc (.cells (madeCells #[.int .u8 0] T.xs.length) 136)).setCell ⟨w2.heap.size, 5, none⟩ (.slice (some ⟨v2.heap.size, 0, none⟩) T.xs.length T.xs.length)) T V1 V2 (rd N 0) := by
  have z := h.lt
  have q1 := hb1.size
  simp only [World.size_drew] at hl1 q1
  exact fin5 ((sx_a h hb1).next hb2) (T1.below hb2 T1.lt) T2 (by omega) (by omega)
theorem goal4 (h : Sx w2 W3 (.pointer (some ⟨T.sb, 0, none⟩)) V1 V2 (.slice none 0 0) (.slice none 0 0) (.slice none 0 0)) (hb1 : Below W3.drew.heap.size W3.drew v1) (hl1 : W3.drew.heap.size ≤ eg) (T1 : TuA v1 eg T.xs.length (fun _ => big)) (hb2 : Below (v1.alloc (.cells (madeCells #[.int .u8 0] T.xs.length) 136)).heap.size (v1.alloc (.cells (madeCells #[.int .u8 0] T.xs.length) 136)) v2) (hl2 : (v1.alloc (.cells (madeCells #[.int .u8 0] T.xs.length) 136)).heap.size ≤ lg) (T2 : TuA v2 lg T.xs.length (fun _ => big)) :
    TmE w2 (((v2.setCell ⟨w2.heap.size, 3, none⟩ (.slice (some ⟨eg, 0, none⟩) T.xs.length ec)).setCell ⟨w2.heap.size, 4, none⟩ (.slice (some ⟨lg, 0, none⟩) T.xs.length lc)).setCell ⟨w2.heap.size, 5, none⟩ (.slice (some ⟨v1.heap.size, 0, none⟩) T.xs.length T.xs.length)) T V1 V2 (rd N 0) := by
  have z := h.lt
  have q1 := hb1.size
  simp only [World.size_drew, World.size_alloc] at hl1 q1 hl2
  have A : Below v1.heap.size v1 (v1.alloc (.cells (madeCells #[.int .u8 0] T.xs.length) 136)) := (Below.refl _ _).alloc (Nat.le_refl _) _
  have t1 := T1.below A T1.lt
  exact fin12 (((sx_a h hb1).next A).next hb2) (t1.below hb2 t1.lt) T2 ((u8_made _ _ _).below hb2) (by omega) (by omega) (by omega)
theorem goal5 (h : Sx w2 W3 (.pointer (some ⟨T.sb, 0, none⟩)) V1 V2 (.slice none 0 0) (.slice none 0 0) (.slice none 0 0)) (hb1 : Below (W3.alloc (.cells (madeCells #[.int .u8 0] T.xs.length) 136)).drew.heap.size (W3.alloc (.cells (madeCells #[.int .u8 0] T.xs.length) 136)).drew v1) (hl1 : (W3.alloc (.cells (madeCells #[.int .u8 0] T.xs.length) 136)).drew.heap.size ≤ eg) (T1 : TuA v1 eg T.xs.length (fun _ => big)) (hb2 : Below v1.heap.size v1 v2) (hl2 : v1.heap.size ≤ lg) (T2 : TuA v2 lg T.xs.length (fun _ => big)) :
    TmE w2 (((v2.setCell ⟨w2.heap.size, 3, none⟩ (.slice (some ⟨eg, 0, none⟩) T.xs.length ec)).setCell ⟨w2.heap.size, 4, none⟩ (.slice (some ⟨lg, 0, none⟩) T.xs.length lc)).setCell ⟨w2.heap.size, 5, none⟩ (.slice (some ⟨W3.heap.size, 0, none⟩) T.xs.length T.xs.length)) T V1 V2 (rd N 0) := by
  have z := h.lt
  have q1 := hb1.size
  simp only [World.size_drew, World.size_alloc] at hl1 q1
  have U := ((u8_made W3 T.xs.length 136).below ((Below.refl _ _).drew)).below hb1
  exact fin12 ((sx_b h hb1).next hb2) (T1.below hb2 T1.lt) T2 (U.below hb2) (by omega) (by omega) (by omega)
end
end Go.Proofs.Ytnabedhhflfepaa
