/-
  The program's search for least ticks, whatever leads on.
  Conditions: the board, its pushes and spans are right.
-/
import Derived.Test.YtnabedhhflfepaaSeek
import Derived.Test.YtnabedhhflfepaaApp3
import Derived.Test.YtnabedhhflfepaaFallsB
import Derived.Deep.CutRange
import Derived.Deep.RegionHeld3
namespace Go.Proofs.Ytnabedhhflfepaa
open Go.RowKit
set_option linter.unusedSimpArgs false
set_option linter.unusedVariables false

theorem bx3_below {w w1 : World} {a b c : Addr} {v0 v1 v2 : Value} (hb : Below w.heap.size w w1) (h : w.cell? a = some v0 ∧ w.cell? b = some v1 ∧ w.cell? c = some v2) : w1.cell? a = some v0 ∧ w1.cell? b = some v1 ∧ w1.cell? c = some v2 :=
  ⟨cell_on hb h.1, cell_on hb h.2.1, cell_on hb h.2.2⟩
theorem bx3_re {X : World} {o o' : Obj} {a b c : Addr} {v0 v1 v2 : Value} (h1 : a.block < X.heap.size) (h2 : b.block < X.heap.size) (h3 : c.block < X.heap.size) (h : (X.alloc o).cell? a = some v0 ∧ (X.alloc o).cell? b = some v1 ∧ (X.alloc o).cell? c = some v2) :
    (X.alloc o').cell? a = some v0 ∧ (X.alloc o').cell? b = some v1 ∧ (X.alloc o').cell? c = some v2 := by
  rw [World.cell?_alloc_lt _ _ _ h1, World.cell?_alloc_lt _ _ _ h2, World.cell?_alloc_lt _ _ _ h3] at h ⊢
  exact h
theorem bx3_re2 {X : World} {o o' p : Obj} {a b c : Addr} {v0 v1 v2 : Value} (h1 : a.block < X.heap.size) (h2 : b.block < X.heap.size) (h3 : c.block < X.heap.size) (h : ((X.alloc o).alloc p).cell? a = some v0 ∧ ((X.alloc o).alloc p).cell? b = some v1 ∧ ((X.alloc o).alloc p).cell? c = some v2) :
    ((X.alloc o').alloc p).cell? a = some v0 ∧ ((X.alloc o').alloc p).cell? b = some v1 ∧ ((X.alloc o').alloc p).cell? c = some v2 := by
  have g : ∀ o q, q < X.heap.size → q < (X.alloc o).heap.size := fun o q h => by simp; omega
  rw [World.cell?_alloc_lt _ _ _ (g _ _ h1), World.cell?_alloc_lt _ _ _ (g _ _ h2), World.cell?_alloc_lt _ _ _ (g _ _ h3), World.cell?_alloc_lt _ _ _ h1, World.cell?_alloc_lt _ _ _ h2, World.cell?_alloc_lt _ _ _ h3] at h ⊢
  exact h
theorem bx3_set {w : World} {a b c q : Addr} {v v0 v1 v2 : Value} (h1 : a.block ≠ q.block) (h2 : b.block ≠ q.block) (h3 : c.block ≠ q.block) (h : w.cell? a = some v0 ∧ w.cell? b = some v1 ∧ w.cell? c = some v2) :
    (w.setCell q v).cell? a = some v0 ∧ (w.setCell q v).cell? b = some v1 ∧ (w.setCell q v).cell? c = some v2 :=
  ⟨(World.cell?_setCell_other _ _ _ _ (fun e => h1 (by rw [e]))).trans h.1, (World.cell?_setCell_other _ _ _ _ (fun e => h2 (by rw [e]))).trans h.2.1, (World.cell?_setCell_other _ _ _ _ (fun e => h3 (by rw [e]))).trans h.2.2⟩
theorem box_all {v : World} {q : Nat} {z : Value} (h : v.cell? ⟨q, 0, none⟩ = some z) (f : v.frozen? ⟨q, 0, none⟩ = false) : v.cell? ⟨q, 0, none⟩ = some z ∧ v.frozen? ⟨q, 0, none⟩ = false ∧ (∀ o, (v.alloc o).cell? ⟨q, 0, none⟩ = some z) ∧ ∀ o, (v.alloc o).frozen? ⟨q, 0, none⟩ = false :=
  ⟨h, f, fun o => cell_on ((Below.refl _ _).alloc (Nat.le_refl _) o) h, fun o => (((Below.refl _ _).alloc (Nat.le_refl _) o).frozen (p := ⟨q, 0, none⟩) (World.block_lt_of_cell? v _ h)).trans f⟩
theorem box_a {X v : World} {z : Value} {t : TypeId} (hb : Below (X.alloc (.cells #[z] t)).drew.heap.size (X.alloc (.cells #[z] t)).drew v) : v.cell? ⟨X.heap.size, 0, none⟩ = some z ∧ v.frozen? ⟨X.heap.size, 0, none⟩ = false ∧ (∀ o, (v.alloc o).cell? ⟨X.heap.size, 0, none⟩ = some z) ∧ ∀ o, (v.alloc o).frozen? ⟨X.heap.size, 0, none⟩ = false :=
  box_all (cell_on hb (by simp [go_sem])) ((hb.frozen (p := ⟨X.heap.size, 0, none⟩) (by simp)).trans (by simp [go_sem]))
theorem box_b {X v : World} {z : Value} {t : TypeId} {o : Obj} (hb : Below ((X.alloc (.cells #[z] t)).alloc o).drew.heap.size ((X.alloc (.cells #[z] t)).alloc o).drew v) : v.cell? ⟨X.heap.size, 0, none⟩ = some z ∧ v.frozen? ⟨X.heap.size, 0, none⟩ = false ∧ (∀ o, (v.alloc o).cell? ⟨X.heap.size, 0, none⟩ = some z) ∧ ∀ o, (v.alloc o).frozen? ⟨X.heap.size, 0, none⟩ = false := by
  have h1 : Below (X.alloc (.cells #[z] t)).heap.size (X.alloc (.cells #[z] t)) v := (((Below.refl _ _).alloc (Nat.le_refl _) o).drew).trans (hb.mono (by simp))
  exact box_all (cell_on h1 (by simp [go_sem])) ((h1.frozen (p := ⟨X.heap.size, 0, none⟩) (by simp)).trans (by simp [go_sem]))
theorem new_cell {X : World} {z : Value} {t : TypeId} {q : Nat} (hq : q = X.heap.size) : (X.alloc (.cells #[z] t)).cell? ⟨q, 0, none⟩ = some z := by
  subst hq
  simp [go_sem]
/-- What the search has picked so far. -/
def PkR (Dn : Nat → Bool) (E : Nat → Nat) (y : Nat) (bi bs bt : Value) : Prop :=
  (bi = .int .i64 (-1) ∧ bt = .int .i64 ((big : Nat) : Int) ∧ NoPick Dn E y) ∨ ∃ i side, side < 4 ∧ Pick Dn E y (4 * i + side) ∧ bi = .int .i64 (i : Int) ∧ bs = .int .i64 (side : Int) ∧ bt = .int .i64 (E (4 * i + side) : Int)
/-- What a lead has to do. -/
structure LeadOk (F : (Nat → Nat) → Nat → Nat) (D : TmgD) (w0 : World) (lf : Nat) (caps : Array Value) (ms : List Nat) (Aux : World → (Nat → Bool) → (Nat → Nat) → Prop) (C : (Nat → Bool) → (Nat → Nat) → Nat → Nat → Nat → Nat) : Prop where
  enters : ∀ args W, (callFunc lf args).run Try.prog W = .ok (.enter lf args) W
  aux : ∀ w w' l Dn E, Aux w Dn E → Only w w' l → (∀ q ∈ ms, q ∉ l) → Aux w' Dn E
  step : ∀ Dn E i side, Found F Dn E → i < D.net.n → side < 4 → Pick Dn E (4 * D.net.n) (4 * i + side) → Found F (plus Dn (4 * i + side)) (fun y => min (E y) (C Dn E i side y))
  call : ∀ w Dn E i side xb ob g c, Below w0.heap.size w0 w → Found F Dn E → Pick Dn E (4 * D.net.n) (4 * i + side) → i < D.net.n → side < 4 → w.cell? ⟨xb, 0, none⟩ = some (.pointer (some ⟨D.tb, 0, none⟩)) → w.cell? ⟨ob, 0, none⟩ = some (.slice (some ⟨g, 0, none⟩) D.T.xs.length c) →
    TuA w g D.T.xs.length E → Fz w g → w0.heap.size ≤ g → g ∉ ms → xb ≠ g → xb ∉ ms → ob ≠ g → ob ∉ ms → Aux w Dn E →
    Calls Try.prog lf (#[.int .i64 i, .int .i64 side, .int .i64 (E (4 * i + side)), .func (.func 96) #[] #[.pointer (some ⟨xb, 0, none⟩), .pointer (some ⟨ob, 0, none⟩)]] ++ caps) w fun e w' =>
      e = .returned (.tuple #[]) ∧ Only w w' (g :: ms) ∧ TuA w' g D.T.xs.length (fun y => min (E y) (C Dn E i side y)) ∧ Fz w' g ∧ Aux w' (plus Dn (4 * i + side)) (fun y => min (E y) (C Dn E i side y))
/-- What seek lays ahead of its loops. -/
structure SkB (w1 w : World) (n xb ob g c d : Nat) (tb : Nat) : Prop where
  below : Below w1.heap.size w1 w
  cx : w.cell? ⟨xb, 0, none⟩ = some (.pointer (some ⟨tb, 0, none⟩))
  co : w.cell? ⟨ob, 0, none⟩ = some (.slice (some ⟨g, 0, none⟩) n c)
  tu : TuA w g n (fun _ => big)
  fg : Fz w g
  sd : SdA w d n (fun _ _ => false)
  fd : Fz w d
  n1 : xb ≠ g
  n2 : xb ≠ d
  n3 : ob ≠ g
  n4 : ob ≠ d
  n5 : g ≠ d
  b1 : w1.heap.size ≤ xb
  b2 : w1.heap.size ≤ ob
  b3 : w1.heap.size ≤ g
  b4 : w1.heap.size ≤ d
set_option maxRecDepth 100000 in
set_option maxHeartbeats 4000000 in
theorem seek_I (F : (Nat → Nat) → Nat → Nat) (D : TmgD) (w0 w1 : World) (hD : D.clk.Ok) (hF : Tick F) (hSl : Slow F (4 * D.net.n)) (hbeg : ∀ y, pushF D.net D.net.push y = F (fun _ => big) y) (hT0 : Tmg w0 D) (hB : Below w0.heap.size w0 w1)
    (lf : Nat) (caps : Array Value) (ms : List Nat) (Aux : World → (Nat → Bool) → (Nat → Nat) → Prop) (C : (Nat → Bool) → (Nat → Nat) → Nat → Nat → Nat → Nat) (hL : LeadOk F D w0 lf caps ms Aux C) (hms : ∀ q ∈ ms, q < w1.heap.size ∧ w0.heap.size ≤ q) (ha : ∀ E, Aux w1 (fun _ => false) E) (hon : ∀ p ∈ D.ps, onB D.T.xs p = true) :
    Calls Try.prog 84 #[.pointer (some ⟨D.tb, 0, none⟩), .func (.func lf) #[] caps] w1 fun e w' => ∃ g c, e = .returned (.slice (some ⟨g, 0, none⟩) D.T.xs.length c) ∧ Only w1 w' ms ∧ w1.heap.size ≤ g ∧ TuA w' g D.T.xs.length (fixp F) ∧ Fz w' g ∧ Aux w' (fun y => decide (fixp F y < big)) (fixp F) := by
  have hn : D.T.xs.length ≤ 60 := hD.n
  have hm : D.ps.length ≤ 20 := hD.m
  have T1 : Tmg w1 D := hT0.below hB
  obtain ⟨W1, hW1⟩ : ∃ W, W = w1.alloc (.cells #[.pointer (some ⟨D.tb, 0, none⟩)] 102) := ⟨_, rfl⟩
  have B1 : Below w1.heap.size w1 W1 := by rw [hW1]; exact (Below.refl _ _).alloc (Nat.le_refl _) _
  have z1 : W1.heap.size = w1.heap.size + 1 := by rw [hW1]; simp
  have cx1 : W1.cell? ⟨w1.heap.size, 0, none⟩ = some (.pointer (some ⟨D.tb, 0, none⟩)) := by rw [hW1]; simp [go_sem]
  have T2 := T1.below B1
  have t0 := T2.c0
  obtain ⟨qa, hqa⟩ : ∃ qa, D.qa = qa := ⟨_, rfl⟩
  have t2 := T2.c2
  have hqs := T1.qs
  rw [hqa] at t2 hqs
  have s0 := T2.st.c0
  have Hn := hid (fun W => none_I D.T.xs.length W (by omega))
  have hmk := make_any (P := Try.prog) 87 114 (.agg #[.bool false, .bool false, .bool false, .bool false]) 4 4 Try.underlying87 (by kernel_rfl) D.T.xs.length (by omega) (by omega)
  have HB1 := hid B1
  have HL := hid hL
  have zt : D.tb < W1.heap.size := World.block_lt_of_cell? W1 ⟨D.tb, 0, none⟩ t0
  have zs : D.T.sb < W1.heap.size := World.block_lt_of_cell? W1 ⟨D.T.sb, 0, none⟩ s0
  clear B1 hL
  go_enter Try.func84, Try.ntmps84
  go_upto_region 1 with fail
  rw [← hW1]
  clear hW1
  go_cut [5, 6] from 16 to 33 (fun s5 s6 wx => ∃ ob g c d dc, s5 = .pointer (some ⟨ob, 0, none⟩) ∧ s6 = .slice (some ⟨d, 0, none⟩) D.T.xs.length dc ∧ SkB w1 wx D.T.xs.length w1.heap.size ob g c d D.tb)
  case first =>
    go_region_held3 (fun w' => w'.cell? ⟨w1.heap.size, 0, none⟩ = some (.pointer (some ⟨D.tb, 0, none⟩)) ∧ w'.cell? ⟨D.tb, 0, none⟩ = some (.pointer (some ⟨D.T.sb, 0, none⟩)) ∧ w'.cell? ⟨D.T.sb, 0, none⟩ = some (.slice D.T.ap D.T.xs.length D.T.cp))
      (first
        | (refine ⟨?_, ?_, ?_⟩ <;> assumption)
        | exact bx3_below hb2 (by assumption)
        | exact bx3_below ((Below.refl _ _).drew) ⟨cx1, t0, s0⟩
        | exact bx3_below ((Below.refl _ _).alloc (Nat.le_refl _) _) (by assumption)
        | (refine bx3_re ?_ ?_ ?_ (by assumption) <;> (first | (dsimp only; omega) | (simp; omega) | (have := hb2.size; simp at this; simp; omega)))
        | (refine bx3_re2 ?_ ?_ ?_ (by assumption) <;> (first | (dsimp only; omega) | (simp; omega) | (have := hb2.size; simp at this; simp; omega)))
        | (refine bx3_set ?_ ?_ ?_ (by assumption) <;> (first | (dsimp only; omega) | (simp; omega) | (have := hb2.size; simp at this; simp; omega))))
      (first
        | (go_at_call 67; refine (Hn.out _).mono ?_; rintro e v2 ⟨g, c, rfl, hb2, hl2, T2, F2⟩; have zz2 := hb2.size; (first | have qa := box_b hb2 | have qa := box_a hb2 | have qa := trivial); (try simp only [World.size_alloc, World.size_drew, z1] at qa); (try (obtain ⟨qa1, qa2, qa3, qa4⟩ := qa))))
    all_goals (go_wp2_with fail; go_meet)
    · have CX := (Below.refl W1.heap.size W1).drew
      have zx := CX.size
      have zz := hb2.size
      have hg2 : W1.heap.size ≤ g := Nat.le_trans zx hl2
      have hgl := T2.lt
      have Bv : Below w1.heap.size w1 v2 := (HB1.out.trans (CX.mono (by omega))).trans (hb2.mono (by omega))
      have CV := cell_on hb2 (cell_on CX cx1)
      have zv : W1.heap.size ≤ v2.heap.size := Nat.le_trans zx zz
      have A1 := (Below.refl v2.heap.size v2).alloc (Nat.le_refl _) (.cells (madeCells #[.bool false, .bool false, .bool false, .bool false] (D.T.xs.length * 4)) 114)
      have A2 := A1.alloc (by simp) (.cells #[.slice (some ⟨g, 0, none⟩) D.T.xs.length c] 125)
      have A3 := (Below.refl (v2.alloc (.cells (madeCells #[.bool false, .bool false, .bool false, .bool false] (D.T.xs.length * 4)) 114)).heap.size (v2.alloc (.cells (madeCells #[.bool false, .bool false, .bool false, .bool false] (D.T.xs.length * 4)) 114))).alloc (Nat.le_refl _) (.cells #[.slice (some ⟨g, 0, none⟩) D.T.xs.length c] 125)
      exact ⟨_, g, c, v2.heap.size, _, rfl, rfl, ⟨below_of Bv Bv.size A2, cell_on A2 CV, new_cell (by simp), T2.below A2 hgl, F2.below A2 hgl, (sd_made v2 D.T.xs.length).below A3 (by simp), (fz_made _ _ _).below A3 (by simp), by omega, by omega, by omega, by omega, by omega, Nat.le_refl _, by omega, by omega, by omega⟩⟩
    · have CX := (Below.refl W1.heap.size W1).drew
      have zx := CX.size
      have zz := hb2.size
      have hg2 : W1.heap.size ≤ g := Nat.le_trans zx hl2
      have hgl := T2.lt
      have Bv : Below w1.heap.size w1 v2 := (HB1.out.trans (CX.mono (by omega))).trans (hb2.mono (by omega))
      have CV := cell_on hb2 (cell_on CX cx1)
      have zv : W1.heap.size ≤ v2.heap.size := Nat.le_trans zx zz
      have A1 := (Below.refl v2.heap.size v2).alloc (Nat.le_refl _) (.cells #[.slice (some ⟨g, 0, none⟩) D.T.xs.length c] 125)
      have A2 := A1.alloc (by simp) (.cells (madeCells #[.bool false, .bool false, .bool false, .bool false] (D.T.xs.length * 4)) 114)
      have A3 := (Below.refl (v2.alloc (.cells #[.slice (some ⟨g, 0, none⟩) D.T.xs.length c] 125)).heap.size (v2.alloc (.cells #[.slice (some ⟨g, 0, none⟩) D.T.xs.length c] 125))).alloc (Nat.le_refl _) (.cells (madeCells #[.bool false, .bool false, .bool false, .bool false] (D.T.xs.length * 4)) 114)
      have S1 := sd_made (v2.alloc (.cells #[.slice (some ⟨g, 0, none⟩) D.T.xs.length c] 125)) D.T.xs.length
      have S2 := fz_made (v2.alloc (.cells #[.slice (some ⟨g, 0, none⟩) D.T.xs.length c] 125)) (madeCells #[.bool false, .bool false, .bool false, .bool false] (D.T.xs.length * 4)) 114
      rw [World.size_alloc] at S1 S2
      exact ⟨v2.heap.size, g, c, _, _, rfl, rfl, ⟨below_of Bv Bv.size A2, cell_on A2 CV, cell_on A3 (new_cell rfl), T2.below A2 hgl, F2.below A2 hgl, S1, S2, by omega, by omega, by omega, by omega, by omega, Nat.le_refl _, by omega, by omega, by omega⟩⟩
    · have CX := (Below.refl W1.heap.size W1).drew
      have zx := CX.size
      have zz := hb2.size
      have hg2 : W1.heap.size ≤ g := Nat.le_trans zx hl2
      have hgl := T2.lt
      have Bv : Below w1.heap.size w1 v2 := (HB1.out.trans (CX.mono (by omega))).trans (hb2.mono (by omega))
      have CV := cell_on hb2 (cell_on CX cx1)
      have zv : W1.heap.size ≤ v2.heap.size := Nat.le_trans zx zz
      have A1 := (Below.refl v2.heap.size v2).alloc (Nat.le_refl _) (.cells #[.slice (some ⟨g, 0, none⟩) D.T.xs.length c] 125)
      have A2 := A1.alloc (by simp) (.cells (madeCells #[.bool false, .bool false, .bool false, .bool false] (D.T.xs.length * 4)) 114)
      have A3 := (Below.refl (v2.alloc (.cells #[.slice (some ⟨g, 0, none⟩) D.T.xs.length c] 125)).heap.size (v2.alloc (.cells #[.slice (some ⟨g, 0, none⟩) D.T.xs.length c] 125))).alloc (Nat.le_refl _) (.cells (madeCells #[.bool false, .bool false, .bool false, .bool false] (D.T.xs.length * 4)) 114)
      have S1 := sd_made (v2.alloc (.cells #[.slice (some ⟨g, 0, none⟩) D.T.xs.length c] 125)) D.T.xs.length
      have S2 := fz_made (v2.alloc (.cells #[.slice (some ⟨g, 0, none⟩) D.T.xs.length c] 125)) (madeCells #[.bool false, .bool false, .bool false, .bool false] (D.T.xs.length * 4)) 114
      rw [World.size_alloc] at S1 S2
      exact ⟨v2.heap.size, g, c, _, _, rfl, rfl, ⟨below_of Bv Bv.size A2, cell_on A2 CV, cell_on A3 (new_cell rfl), T2.below A2 hgl, F2.below A2 hgl, S1, S2, by omega, by omega, by omega, by omega, by omega, Nat.le_refl _, by omega, by omega, by omega⟩⟩
    · have CX := ((Below.refl W1.heap.size W1).alloc (Nat.le_refl _) (.cells (madeCells #[.bool false, .bool false, .bool false, .bool false] (D.T.xs.length * 4)) 114)).drew
      have zx := CX.size
      have zz := hb2.size
      have hg2 : W1.heap.size ≤ g := Nat.le_trans zx hl2
      have hgl := T2.lt
      have Bv : Below w1.heap.size w1 v2 := (HB1.out.trans (CX.mono (by omega))).trans (hb2.mono (by omega))
      have CV := cell_on hb2 (cell_on CX cx1)
      have zv : W1.heap.size ≤ v2.heap.size := Nat.le_trans zx zz
      have A1 := (Below.refl v2.heap.size v2).alloc (Nat.le_refl _) (.cells #[.slice (some ⟨g, 0, none⟩) D.T.xs.length c] 125)
      have S0 := sd_made W1 D.T.xs.length
      have S1 := (((S0.below ((Below.refl _ _).drew) S0.lt).below hb2 (by simp)).below A1 (by omega))
      have S2 := ((((fz_made W1 (madeCells #[.bool false, .bool false, .bool false, .bool false] (D.T.xs.length * 4)) 114).below ((Below.refl _ _).drew) S0.lt).below hb2 (by simp)).below A1 (by omega))
      simp at hl2 zz
      rw [z1] at S1 S2
      exact ⟨v2.heap.size, g, c, _, _, rfl, rfl, ⟨below_of Bv Bv.size A1, cell_on A1 CV, new_cell rfl, T2.below A1 hgl, F2.below A1 hgl, S1, S2, by omega, by omega, by omega, by omega, by omega, Nat.le_refl _, by omega, by omega, by omega⟩⟩
    · have CX := (((Below.refl W1.heap.size W1).alloc (Nat.le_refl _) (.cells (madeCells #[.bool false, .bool false, .bool false, .bool false] (D.T.xs.length * 4)) 114)).alloc (by simp) (.cells #[.slice none 0 0] 125)).drew
      have zx := CX.size
      have zz := hb2.size
      have hg2 : W1.heap.size ≤ g := Nat.le_trans zx hl2
      have hgl := T2.lt
      have Bv : Below w1.heap.size w1 v2 := (HB1.out.trans (CX.mono (by omega))).trans (hb2.mono (by omega))
      have CV := cell_on hb2 (cell_on CX cx1)
      have zv : W1.heap.size ≤ v2.heap.size := Nat.le_trans zx zz
      have S0 := sd_made W1 D.T.xs.length
      have Y := ((Below.refl (W1.alloc (.cells (madeCells #[.bool false, .bool false, .bool false, .bool false] (D.T.xs.length * 4)) 114)).heap.size (W1.alloc (.cells (madeCells #[.bool false, .bool false, .bool false, .bool false] (D.T.xs.length * 4)) 114))).alloc (Nat.le_refl _) (.cells #[.slice none 0 0] 125)).drew
      have S1 := (S0.below Y S0.lt).below hb2 (by simp; omega)
      have S2 := ((fz_made W1 (madeCells #[.bool false, .bool false, .bool false, .bool false] (D.T.xs.length * 4)) 114).below Y S0.lt).below hb2 (by simp; omega)
      simp at hl2 zz
      rw [z1] at S1 S2
      have G := store_grown v2 (w1.heap.size + 1 + 1) 0 (.slice (some ⟨g, 0, none⟩) D.T.xs.length c)
      have O := Only.of_grown (l := [w1.heap.size + 1 + 1]) G (by simp)
      exact ⟨_, g, c, _, _, rfl, rfl, ⟨Bv.setCell (by dsimp only; omega) _, O.cell CV (by simp; omega), World.cell?_setCell_same _ _ _ qa1, O.tu T2 (by simp; omega), O.fz F2 hgl (by simp; omega), O.sd S1 (by simp), O.fz S2 (by omega) (by simp), by omega, by omega, by omega, by omega, by omega, Nat.le_refl _, by omega, by omega, by omega⟩⟩
    · have CX := ((Below.refl W1.heap.size W1).alloc (Nat.le_refl _) (.cells #[.slice none 0 0] 125)).drew
      have zx := CX.size
      have zz := hb2.size
      have hg2 : W1.heap.size ≤ g := Nat.le_trans zx hl2
      have hgl := T2.lt
      have Bv : Below w1.heap.size w1 v2 := (HB1.out.trans (CX.mono (by omega))).trans (hb2.mono (by omega))
      have CV := cell_on hb2 (cell_on CX cx1)
      have zv : W1.heap.size ≤ v2.heap.size := Nat.le_trans zx zz
      simp at hl2 zz
      have A1 := (Below.refl v2.heap.size v2).alloc (Nat.le_refl _) (.cells (madeCells #[.bool false, .bool false, .bool false, .bool false] (D.T.xs.length * 4)) 114)
      have S1 := sd_made v2 D.T.xs.length
      have S2 := fz_made v2 (madeCells #[.bool false, .bool false, .bool false, .bool false] (D.T.xs.length * 4)) 114
      have G := store_grown (v2.alloc (.cells (madeCells #[.bool false, .bool false, .bool false, .bool false] (D.T.xs.length * 4)) 114)) (w1.heap.size + 1) 0 (.slice (some ⟨g, 0, none⟩) D.T.xs.length c)
      have O := Only.of_grown (l := [w1.heap.size + 1]) G (by simp)
      exact ⟨_, g, c, _, _, rfl, rfl, ⟨(below_of Bv Bv.size A1).setCell (by dsimp only; omega) _, O.cell (cell_on A1 CV) (by simp), World.cell?_setCell_same _ _ _ (qa3 _), O.tu (T2.below A1 hgl) (by simp; omega), O.fz (F2.below A1 hgl) (by simp; omega) (by simp; omega), O.sd S1 (by simp; omega), O.fz S2 (by simp) (by simp; omega), by omega, by omega, by omega, by omega, by omega, Nat.le_refl _, by omega, by omega, by omega⟩⟩
    · have CX := ((Below.refl W1.heap.size W1).alloc (Nat.le_refl _) (.cells #[.slice none 0 0] 125)).drew
      have zx := CX.size
      have zz := hb2.size
      have hg2 : W1.heap.size ≤ g := Nat.le_trans zx hl2
      have hgl := T2.lt
      have Bv : Below w1.heap.size w1 v2 := (HB1.out.trans (CX.mono (by omega))).trans (hb2.mono (by omega))
      have CV := cell_on hb2 (cell_on CX cx1)
      have zv : W1.heap.size ≤ v2.heap.size := Nat.le_trans zx zz
      simp at hl2 zz
      obtain ⟨v3, hv3⟩ : ∃ v, v = v2.setCell ⟨w1.heap.size + 1, 0, none⟩ (.slice (some ⟨g, 0, none⟩) D.T.xs.length c) := ⟨_, rfl⟩
      have G := store_grown v2 (w1.heap.size + 1) 0 (.slice (some ⟨g, 0, none⟩) D.T.xs.length c)
      have O := Only.of_grown (l := [w1.heap.size + 1]) G (by simp)
      have B3 : Below w1.heap.size w1 v3 := by rw [hv3]; exact Bv.setCell (by dsimp only; omega) _
      have co3 := World.cell?_setCell_same v2 ⟨w1.heap.size + 1, 0, none⟩ (.slice (some ⟨g, 0, none⟩) D.T.xs.length c) qa1
      have sz3 : v3.heap.size = v2.heap.size := by rw [hv3]; simp
      rw [← hv3] at O co3 ⊢
      rw [← sz3]
      clear hv3 G
      have A1 := (Below.refl v3.heap.size v3).alloc (Nat.le_refl _) (.cells (madeCells #[.bool false, .bool false, .bool false, .bool false] (D.T.xs.length * 4)) 114)
      have S1 := sd_made v3 D.T.xs.length
      have S2 := fz_made v3 (madeCells #[.bool false, .bool false, .bool false, .bool false] (D.T.xs.length * 4)) 114
      exact ⟨_, g, c, _, _, rfl, rfl, ⟨below_of B3 B3.size A1, cell_on A1 (O.cell CV (by simp)), cell_on A1 co3, (O.tu T2 (by simp; omega)).below A1 (by omega), (O.fz F2 hgl (by simp; omega)).below A1 (by omega), S1, S2, by omega, by omega, by omega, by omega, by omega, Nat.le_refl _, by omega, by omega, by omega⟩⟩
    · have CX := (((Below.refl W1.heap.size W1).alloc (Nat.le_refl _) (.cells #[.slice none 0 0] 125)).alloc (by simp) (.cells (madeCells #[.bool false, .bool false, .bool false, .bool false] (D.T.xs.length * 4)) 114)).drew
      have zx := CX.size
      have zz := hb2.size
      have hg2 : W1.heap.size ≤ g := Nat.le_trans zx hl2
      have hgl := T2.lt
      have Bv : Below w1.heap.size w1 v2 := (HB1.out.trans (CX.mono (by omega))).trans (hb2.mono (by omega))
      have CV := cell_on hb2 (cell_on CX cx1)
      have zv : W1.heap.size ≤ v2.heap.size := Nat.le_trans zx zz
      have S0 := sd_made (W1.alloc (.cells #[.slice none 0 0] 125)) D.T.xs.length
      have F0 := fz_made (W1.alloc (.cells #[.slice none 0 0] 125)) (madeCells #[.bool false, .bool false, .bool false, .bool false] (D.T.xs.length * 4)) 114
      have S1 := (S0.below ((Below.refl _ _).drew) S0.lt).below hb2 (by simp)
      have S2 := (F0.below ((Below.refl _ _).drew) S0.lt).below hb2 (by simp)
      simp at hl2 zz
      rw [World.size_alloc, z1] at S1 S2
      have G := store_grown v2 (w1.heap.size + 1) 0 (.slice (some ⟨g, 0, none⟩) D.T.xs.length c)
      have O := Only.of_grown (l := [w1.heap.size + 1]) G (by simp)
      exact ⟨_, g, c, _, _, rfl, rfl, ⟨Bv.setCell (by dsimp only; omega) _, O.cell CV (by simp), World.cell?_setCell_same _ _ _ qa1, O.tu T2 (by simp; omega), O.fz F2 hgl (by simp; omega), O.sd S1 (by simp), O.fz S2 (by omega) (by simp), by omega, by omega, by omega, by omega, by omega, Nat.le_refl _, by omega, by omega, by omega⟩⟩
  case rest =>
    obtain ⟨ob, g, c, d, dc, rfl, rfl, hK⟩ := hcut
    have HK := hid hK
    have TC : Tmg wc D := T1.below hK.below
    have q2 := TC.c2
    rw [hqa] at q2
    have c0 := TC.c0
    have cxc := hK.cx
    have coc := hK.co
    have nb3 := hK.b3
    have nb4 := hK.b4
    have nb2 := hK.b2
    have hgl := hK.tu.lt
    have hdl := hK.sd.lt
    have hzc := hK.below.size
    have e0 : pushF D.net (pTo D.T.xs D.ps 0) = fun _ => big := pushF_zero _ _ _
    have okp := hD.pu
    have one := hD.one
    have HTC := hid TC
    clear hK TC hqa
    go_wp2_with fail
    go_loopw [40] (fun i wr => ∃ k : Nat, k ≤ D.ps.length ∧ i = .int .i64 k ∧ Only wc wr [g] ∧ TuA wr g D.T.xs.length (pushF D.net (pTo D.T.xs D.ps k)) ∧ Fz wr g) (fun i _ => D.ps.length - (intOf i).toNat)
    case atStart => exact ⟨0, Nat.zero_le _, rfl, Only.refl _ _, by rw [e0]; exact HK.out.tu, HK.out.fg⟩
    case round =>
      obtain ⟨k, hk, rfl, hO, hTu, hFz⟩ := hrel
      have hBw : Below w1.heap.size w1 wr := hO.below HK.out.below hzc (fun x hx => by simp at hx; omega)
      have cx := hO.cell cxc (by simp; exact HK.out.n1)
      have co := hO.cell coc (by simp; exact HK.out.n3)
      by_cases hlt : k < D.ps.length
      · have Tw : Tmg wr D := T1.below hBw
        obtain ⟨b1, o1, rfl, hb1, hc1⟩ := (hqs.below hBw).cells (by simp; omega)
        have e1 : D.ps[k]? = some D.ps[k] := List.getElem?_eq_getElem hlt
        have e2 : (D.ps.map (hitQp D.T.xs))[k]? = some (hitQp D.T.xs D.ps[k]) := by rw [List.getElem?_map, e1]; rfl
        have hpo := okp _ (List.getElem_mem hlt)
        have hono := hon _ (List.getElem_mem hlt)
        obtain ⟨j, pj, hj, hjp, _, _⟩ := idxOf_some (show D.T.xs.any (atC D.ps[k].x D.ps[k].y) = true from hono)
        have hjl := (List.getElem?_eq_some_iff.1 hjp).1
        have f0 : wr.cell? ⟨b1, o1 + k * 4, none⟩ = some (.int .i64 D.ps[k].t) := hc1 k _ e2 0 _ rfl
        have f1 : wr.cell? ⟨b1, o1 + k * 4 + 1, none⟩ = some (.int .i64 (idxOf (atC D.ps[k].x D.ps[k].y) D.T.xs)) := hc1 k _ e2 1 _ rfl
        have f2 : wr.cell? ⟨b1, o1 + k * 4 + 2, none⟩ = some (.int .i64 D.ps[k].s) := hc1 k _ e2 2 _ rfl
        have f3 : wr.cell? ⟨b1, o1 + k * 4 + 3, none⟩ = some (.int .i64 (-1)) := hc1 k _ e2 3 _ rfl
        have HST := hid (fun y => pTo_step (ss := D.ss) e1 one hj hono hpo.2.2.1 hpo.2.2.2 y)
        rw [hj] at f1
        obtain ⟨s, hs⟩ : ∃ s : Nat, D.ps[k].s = s := ⟨D.ps[k].s.toNat, by omega⟩
        obtain ⟨t, ht⟩ : ∃ t : Nat, D.ps[k].t = t := ⟨D.ps[k].t.toNat, by omega⟩
        rw [hs] at f2 HST
        rw [ht] at f0 HST
        simp only [Int.toNat_natCast] at HST
        have hs4 : s < 4 := by omega
        have hki : (k : Int) < (D.ps.length : Int) := by omega
        have hd : decide ((k : Int) < (D.ps.length : Int)) = true := by rw [decide_eq_true_iff]; omega
        obtain ⟨W2, hW2⟩ : ∃ W, W = wr.alloc (.cells #[.int .i64 t, .int .i64 j, .int .i64 s, .int .i64 (-1)] 153) := ⟨_, rfl⟩
        have B2 : Below wr.heap.size wr W2 := by rw [hW2]; exact (Below.refl _ _).alloc (Nat.le_refl _) _
        have HA := hid (add_I D w1.heap.size ob g c j s t (pushF D.net (pTo D.T.xs D.ps k)) W2 (Tw.below B2) (cell_on B2 cx) (cell_on B2 co) (hTu.below B2 hTu.lt) (hFz.below B2 hTu.lt) hjl hs4 (by omega))
        have HO := hid (hO.trans (Only.of_below B2 [g]))
        clear hpo hono hj hjp hc1 e1 e2 hs ht Tw hO hTu hFz
        go_wp2_with fail
        rw [← hW2]
        clear hW2
        refine HA.out.mono ?_
        rintro e w3 ⟨rfl, hg3, ht3, hf3⟩
        have HT3 := hid (ht3.congr (fun y _ => HST.out y))
        have HF3 := hid hf3
        have HO3 := hid (HO.out.trans (Only.of_grown hg3 (by simp)))
        clear hg3 ht3 hf3
        go_wp2_with fail
        exact ⟨⟨k + 1, by omega, by go_num, HO3.out, HT3.out, HF3.out⟩, by simp [intOf]; omega⟩
      · obtain rfl : k = D.ps.length := by omega
        have hd : decide ((D.ps.length : Int) < (D.ps.length : Int)) = false := by rw [decide_eq_false_iff_not]; omega
        rw [pTo_all D.T.xs D.ps D.ss] at hTu
        have hFd : Found F (fun _ => false) (pushF D.net D.net.push) := found_begin hbeg
        have HI := hid (show ∃ (Dn : Nat → Bool) (E : Nat → Nat), Only wc wr (g :: d :: ms) ∧ TuA wr g D.T.xs.length E ∧ Fz wr g ∧ SdA wr d D.T.xs.length (fun i s => Dn (4 * i + s)) ∧ Fz wr d ∧ Found F Dn E ∧ Aux wr Dn E from
          ⟨fun _ => false, _, hO.more (by simp), hTu, hFz, hO.sd HK.out.sd (by simp; exact Ne.symm HK.out.n5), hO.fz HK.out.fd hdl (by simp; exact Ne.symm HK.out.n5), hFd,
            HL.out.aux _ _ [g] _ _ (HL.out.aux _ _ [] _ _ (ha _) (Only.of_below HK.out.below []) (by simp)) hO (fun q hq => by have := (hms q hq).1; simp; omega)⟩)
        clear hTu hFz hFd hO hbeg ha cx co hBw q2 c0 okp one
        go_wp2_with fail
        go_loopw [] (fun wr => ∃ (Dn : Nat → Bool) (E : Nat → Nat), Only wc wr (g :: d :: ms) ∧ TuA wr g D.T.xs.length E ∧ Fz wr g ∧ SdA wr d D.T.xs.length (fun i s => Dn (4 * i + s)) ∧ Fz wr d ∧ Found F Dn E ∧ Aux wr Dn E) (fun wr => undW wr d (4 * D.T.xs.length))
        case atStart => exact HI.out
        case round =>
          obtain ⟨Dn, E, hO, hTu, hFz, hSd, hFd, hFo, hAx⟩ := hrel
          obtain ⟨V, hV⟩ : ∃ V, V = wr := ⟨_, rfl⟩
          subst hV
          have nms : ∀ q, w1.heap.size ≤ q → q ∉ ms := fun q hq hm => by have := (hms q hm).1; omega
          have cx := hO.cell cxc (by simp; exact ⟨HK.out.n1, HK.out.n2, nms _ (Nat.le_refl _)⟩)
          have co := hO.cell coc (by simp; exact ⟨HK.out.n3, HK.out.n4, nms _ HK.out.b2⟩)
          have HO := hid hO
          have HTu := hid hTu
          have HFz := hid hFz
          have HSd := hid hSd
          have HFd := hid hFd
          have HFo := hid hFo
          have HAx := hid hAx
          have HCO := hid co
          clear hO hTu hFz hSd hFd hFo hAx HI
          go_wp2_with fail
          go_loop [10, 11, 12, 55] (fun bi bs bt kv => ∃ k : Nat, k ≤ D.T.xs.length ∧ kv = .int .i64 k ∧ PkR Dn E (4 * k) bi bs bt) (fun _ _ _ kv => D.T.xs.length - (intOf kv).toNat)
          case atStart => exact ⟨0, Nat.zero_le _, rfl, .inl ⟨rfl, rfl, fun y hy => by omega⟩⟩
          case round =>
            obtain ⟨k, hk, rfl, hP⟩ := hrel
            by_cases hlt : k < D.T.xs.length
            · have hd : decide ((k : Int) < (D.T.xs.length : Int)) = true := by rw [decide_eq_true_iff]; omega
              have a0 : V.cell? ⟨g, k * 4, none⟩ = some (.int .i64 (E (4 * k) : Int)) := HTu.out.c k 0 hlt (by omega)
              have a1 : V.cell? ⟨g, k * 4 + 1, none⟩ = some (.int .i64 (E (4 * k + 1) : Int)) := HTu.out.c k 1 hlt (by omega)
              have a2 : V.cell? ⟨g, k * 4 + 2, none⟩ = some (.int .i64 (E (4 * k + 2) : Int)) := HTu.out.c k 2 hlt (by omega)
              have a3 : V.cell? ⟨g, k * 4 + 3, none⟩ = some (.int .i64 (E (4 * k + 3) : Int)) := HTu.out.c k 3 hlt (by omega)
              have hki : (k : Int) < (D.T.xs.length : Int) := by omega
              have HP := hid hP
              clear hP
              go_wp2_with fail
              go_loop [10, 11, 12, 62] (fun bi bs bt sv => ∃ s : Nat, s ≤ 4 ∧ sv = .int .i64 s ∧ PkR Dn E (4 * k + s) bi bs bt) (fun _ _ _ sv => 4 - (intOf sv).toNat)
              case atStart => exact ⟨0, by omega, rfl, HP.out⟩
              case round =>
                obtain ⟨s, hs, rfl, hP⟩ := hrel
                by_cases hs4 : s < 4
                · have hds : decide ((s : Int) < 4) = true := by rw [decide_eq_true_iff]; omega
                  have hsi : (s : Int) < 4 := by omega
                  have hidx := fun W => idxTk (v0 := E (4 * k)) (v1 := E (4 * k + 1)) (v2 := E (4 * k + 2)) (v3 := E (4 * k + 3)) (f := fun j => (E (4 * k + j) : Int)) rfl rfl rfl rfl hs4 W
                  have ed := HSd.out.c k s hlt hs4
                  obtain ⟨dn, hdn⟩ : ∃ b, Dn (4 * k + s) = b := ⟨_, rfl⟩
                  obtain ⟨u, hu⟩ : ∃ u, E (4 * k + s) = u := ⟨_, rfl⟩
                  rw [hdn] at ed
                  simp only [hu] at hidx
                  rcases hP with ⟨rfl, rfl, hN⟩ | ⟨i, side, hs9, hx, rfl, rfl, rfl⟩
                  · cases dn
                    · by_cases hlu : u < big
                      · have hc : decide ((u : Int) < ((big : Nat) : Int)) = true := by rw [decide_eq_true_iff]; omega
                        have HQ := hid (hN.take hdn (by rw [hu]; exact hlu))
                        have HU := hid hu
                        clear hN hdn hu
                        go_wp2_with fail
                        exact ⟨⟨s + 1, by omega, by go_num, .inr ⟨k, s, hs4, HQ.out, rfl, rfl, by rw [HU.out]⟩⟩, by simp [intOf]; omega⟩
                      · have hc : decide ((u : Int) < ((big : Nat) : Int)) = false := by rw [decide_eq_false_iff_not]; omega
                        have HQ := hid (hN.skip (.inr (by rw [hu]; exact hlu)))
                        clear hN hdn hu
                        go_wp2_with fail
                        exact ⟨⟨s + 1, by omega, by go_num, .inl ⟨rfl, rfl, HQ.out⟩⟩, by simp [intOf]; omega⟩
                    · have HQ := hid (hN.skip (.inl hdn))
                      clear hN hdn hu
                      go_wp2_with fail
                      exact ⟨⟨s + 1, by omega, by go_num, .inl ⟨rfl, rfl, HQ.out⟩⟩, by simp [intOf]; omega⟩
                  · obtain ⟨t, ht⟩ : ∃ t, E (4 * i + side) = t := ⟨_, rfl⟩
                    rw [ht]
                    cases dn
                    · by_cases hlu : u < t
                      · have hc : decide ((u : Int) < (t : Int)) = true := by rw [decide_eq_true_iff]; omega
                        have HQ := hid (hx.take hdn (by rw [hu, ht]; exact hlu))
                        have HU := hid hu
                        clear hx hdn hu ht
                        go_wp2_with fail
                        exact ⟨⟨s + 1, by omega, by go_num, .inr ⟨k, s, hs4, HQ.out, rfl, rfl, by rw [HU.out]⟩⟩, by simp [intOf]; omega⟩
                      · have hc : decide ((u : Int) < (t : Int)) = false := by rw [decide_eq_false_iff_not]; omega
                        have HQ := hid (hx.skip (.inr (by rw [hu, ht]; exact hlu)))
                        have HU := hid ht
                        clear hx hdn hu ht
                        go_wp2_with fail
                        exact ⟨⟨s + 1, by omega, by go_num, .inr ⟨i, side, hs9, HQ.out, rfl, rfl, by rw [HU.out]⟩⟩, by simp [intOf]; omega⟩
                    · have HQ := hid (hx.skip (.inl hdn))
                      have HU := hid ht
                      clear hx hdn hu ht
                      go_wp2_with fail
                      exact ⟨⟨s + 1, by omega, by go_num, .inr ⟨i, side, hs9, HQ.out, rfl, rfl, by rw [HU.out]⟩⟩, by simp [intOf]; omega⟩
                · obtain rfl : s = 4 := by omega
                  have hds : decide (((4 : Nat) : Int) < 4) = false := by decide
                  have HP2 := hid hP
                  clear hP
                  go_wp2_with fail
                  exact ⟨⟨k + 1, by omega, by go_num, HP2.out⟩, by simp [intOf]; omega⟩
            · obtain rfl : k = D.T.xs.length := by omega
              have hd : decide ((D.T.xs.length : Int) < (D.T.xs.length : Int)) = false := by rw [decide_eq_false_iff_not]; omega
              rcases hP with ⟨rfl, rfl, hN⟩ | ⟨i, side, hs9, hx, rfl, rfl, rfl⟩
              · have hend := found_end hF hSl HFo.out hN
                have HE1 := hid (show E = fixp F from funext hend.1)
                have HE2 := hid (show Dn = fun y => decide (fixp F y < big) from funext fun y => by
                  rcases Nat.lt_or_ge y (4 * D.net.n) with h | h
                  · rw [hend.2 y h, ← hend.1 y]
                  · have h1 : fixp F y = big := fix_out hF hSl h
                    rw [h1]
                    cases hd : Dn y with
                    | false => simp
                    | true => have := HFo.out.fin y hd; rw [hend.1 y, h1] at this; exact absurd this (Nat.lt_irrefl _))
                have HR := hid (show Only w1 V ms from
                  ⟨HO.out.os.trans HK.out.below.os, HO.out.tape.trans HK.out.below.tape, HO.out.output.trans HK.out.below.output, Nat.le_trans hzc HO.out.size,
                    fun q hq hqm => (HO.out.block q (Nat.lt_of_lt_of_le hq hzc) (by simp; exact ⟨by omega, by omega, hqm⟩)).trans (HK.out.below.block q hq)⟩)
                clear hN hend
                go_wp2_with fail
                go_ret
                refine ⟨g, ⟨c, rfl⟩, HR.out, nb3, ?_, HFz.out, ?_⟩
                · rw [← HE1.out]; exact HTu.out
                · rw [← HE2.out, ← HE1.out]; exact HAx.out
              · have hil : i < D.T.xs.length := by have := hx.lt; omega
                have hii : (i : Int) < (D.T.xs.length : Int) := by omega
                have hsi : (side : Int) < 4 := by omega
                have hineg : decide ((i : Int) < 0) = false := by rw [decide_eq_false_iff_not]; omega
                have ed := HSd.out.c i side hil hs9
                have fd := HFd.out (i * 4 + side)
                obtain ⟨W4, hW4⟩ : ∃ W, W = V.setCell ⟨d, i * 4 + side, none⟩ (.bool true) := ⟨_, rfl⟩
                have O4 : Only V W4 [d] := by rw [hW4]; exact Only.of_grown (store_grown _ _ _ _) (by simp)
                have S4 : SdA W4 d D.T.xs.length (fun a b => plus Dn (4 * i + side) (4 * a + b)) := by
                  rw [hW4]
                  refine ⟨by simpa using HSd.out.lt, fun a b ha hb => ?_⟩
                  by_cases e : a = i ∧ b = side
                  · obtain ⟨rfl, rfl⟩ := e
                    rw [World.cell?_setCell_same _ _ _ ed]
                    simp [plus]
                  · rw [World.cell?_setCell_other _ _ _ _ (by intro x; simp only [Addr.mk.injEq] at x; omega), HSd.out.c a b ha hb]
                    have : ¬ 4 * a + b = 4 * i + side := by omega
                    simp [plus, this]
                have F4 : Fz W4 d := by rw [hW4]; exact HFd.out.set _ _
                have n5 := HK.out.n5
                have B4 : Below w0.heap.size w0 W4 := by
                  refine O4.below (HO.out.below (hB.trans (HK.out.below.mono hB.size)) (Nat.le_trans hB.size hzc) (fun x hx => ?_)) (Nat.le_trans (Nat.le_trans hB.size hzc) HO.out.size) (fun x hx => ?_)
                  · simp only [List.mem_cons] at hx
                    have := hB.size
                    rcases hx with rfl | rfl | hx
                    · omega
                    · omega
                    · exact (hms x hx).2
                  · simp only [List.mem_cons, List.not_mem_nil, or_false] at hx
                    have := hB.size
                    omega
                have HC := hid (HL.out.call W4 Dn E i side w1.heap.size ob g c B4 HFo.out hx hil hs9 (O4.cell cx (by simp; exact HK.out.n2)) (O4.cell HCO.out (by simp; exact HK.out.n4)) (O4.tu HTu.out (by simp; exact n5)) (O4.fz HFz.out HTu.out.lt (by simp; exact n5)) (by have := hB.size; omega) (nms g nb3) HK.out.n1 (nms _ (Nat.le_refl _)) HK.out.n3 (nms _ nb2)
                  (HL.out.aux _ _ [d] _ _ HAx.out O4 (fun q hq => by have := (hms q hq).1; simp; omega)))
                have hent := HL.out.enters
                have HSt := hid (HL.out.step Dn E i side HFo.out hil hs9 hx)
                have HO4 := hid (HO.out.trans (O4.more (l' := g :: d :: ms) (by simp)))
                have HS4 := hid S4
                have HF4 := hid F4
                have HMe := hid (show undone (plus Dn (4 * i + side)) (4 * D.T.xs.length) + 1 = undone Dn (4 * D.T.xs.length) from undone_step hx.fresh _ hx.lt)
                clear hx S4 F4 O4 B4
                go_wp2_with fail
                rw [← hW4]
                refine HC.out.mono ?_
                rintro e w5 ⟨rfl, hO5, hT5, hF5, hA5⟩
                have S5 := hO5.sd HS4.out (by simp; exact ⟨Ne.symm n5, nms _ nb4⟩)
                have HR5 := hid (show ∃ (Dn : Nat → Bool) (E : Nat → Nat), Only wc w5 (g :: d :: ms) ∧ TuA w5 g D.T.xs.length E ∧ Fz w5 g ∧ SdA w5 d D.T.xs.length (fun i s => Dn (4 * i + s)) ∧ Fz w5 d ∧ Found F Dn E ∧ Aux w5 Dn E from
                  ⟨plus Dn (4 * i + side), _, HO4.out.trans (hO5.more (by simp; intro x hx; exact .inr (.inr hx))), hT5, hF5, S5, hO5.fz HF4.out HS4.out.lt (by simp; exact ⟨Ne.symm n5, nms _ nb4⟩), HSt.out, hA5⟩)
                have HM5 := hid (undW_eq S5 (4 * D.T.xs.length) (Nat.le_refl _))
                have HMV := hid (undW_eq HSd.out (4 * D.T.xs.length) (Nat.le_refl _))
                clear hO5 hT5 hF5 hA5 S5 hW4
                go_wp2_with fail
                refine ⟨HR5.out, ?_⟩
                rw [HM5.out, HMV.out]
                have := HMe.out
                omega
end Go.Proofs.Ytnabedhhflfepaa
