/-
  The program's earliest and latest hits.
  Conditions: the board, its pushes and spans are right.
-/
import Derived.Test.YtnabedhhflfepaaLeadE
import Derived.Test.YtnabedhhflfepaaLeadL
import Derived.BigQuiet
import Derived.Shelf.Abstract
namespace Go.Proofs.Ytnabedhhflfepaa
open Go.RowKit
set_option linter.unusedSimpArgs false
set_option linter.unusedVariables false

theorem leadOkE (D : TmgD) (w0 : World) (hD : D.clk.Ok) (hT0 : Tmg w0 D) (L : Nat → Nat) (lg lc : Nat) (k4 : w0.cell? ⟨D.tb, 4, none⟩ = some (.slice (some ⟨lg, 0, none⟩) D.T.xs.length lc)) (hL0 : TuA w0 lg D.T.xs.length L) (m mb x1 : Nat) (hm : w0.heap.size ≤ m ∧ w0.heap.size ≤ mb ∧ w0.heap.size ≤ x1) (hne : mb ≠ m ∧ x1 ≠ m) :
    LeadOk (earlyF D.net L) D w0 85 #[.pointer (some ⟨x1, 0, none⟩), .pointer (some ⟨mb, 0, none⟩)] [m, mb, x1] (AuxE D L m mb x1) (fun _ E i side y => leadE D.net L i side (E (4 * i + side)) y) where
  enters := enters_of Try.func85 (by kernel_rfl) rfl
  aux := fun w w' l Dn E h ho hq => ⟨ho.cell h.1 (hq _ (by simp)), ho.cell h.2.1 (hq _ (by simp)), h.2.2.1.only ho (hq _ (by simp)), ho.fz h.2.2.2 h.2.2.1.lt (hq _ (by simp))⟩
  step := fun Dn E i side h hi hs hx => found_early (net_ok hD) L h hi hs hx
  call := fun w Dn E i side xb ob g c hB hF hP hi hs cx co hE hFz hg hgm hxg hxm hog hom hA => leadE_I D w0 hD hT0 L lg lc k4 hL0 m mb x1 hm hne w Dn E i side xb ob g c hB hF hP hi hs cx co hE hFz hg hgm hxg hxm hog hom hA
theorem leadOkL (D : TmgD) (w0 : World) (hD : D.clk.Ok) (hT0 : Tmg w0 D) (S : Nat → Nat → Bool) (mg mc : Nat) (k5 : w0.cell? ⟨D.tb, 5, none⟩ = some (.slice (some ⟨mg, 0, none⟩) D.T.xs.length mc)) (hS0 : U8A w0 mg D.T.xs.length (fun i => sBits (S i))) (m mb x1 : Nat) (hm : w0.heap.size ≤ m ∧ w0.heap.size ≤ mb ∧ w0.heap.size ≤ x1) (hne : mb ≠ m ∧ x1 ≠ m) :
    LeadOk (lateF D.net S) D w0 88 #[.pointer (some ⟨mb, 0, none⟩), .pointer (some ⟨x1, 0, none⟩)] [m, mb, x1] (AuxL D m mb x1) (fun Dn E i side y => leadL D.net S (seenBy Dn i) i (E (4 * i + side)) y) where
  enters := enters_of Try.func88 (by kernel_rfl) rfl
  aux := fun w w' l Dn E h ho hq => ⟨ho.cell h.1 (hq _ (by simp)), ho.cell h.2.1 (hq _ (by simp)), h.2.2.1.only ho (hq _ (by simp)), ho.fz h.2.2.2 h.2.2.1.lt (hq _ (by simp))⟩
  step := fun Dn E i side h hi hs hx => found_late (net_ok hD) S h hi hs hx
  call := fun w Dn E i side xb ob g c hB hF hP hi hs cx co hE hFz hg hgm hxg hxm hog hom hA => leadL_I D w0 hD hT0 S mg mc k5 hS0 m mb x1 hm hne w Dn E i side xb ob g c hB hF hP hi hs cx co hE hFz hg hgm hxg hxm hog hom hA
theorem made_one (v : Value) (m j : Nat) (h : j < m) : (madeCells #[v] m)[j]? = some v := by
  unfold madeCells
  have hz : ∀ k, (#[v] : Array Value)[k % 1]! = v := fun k => by rw [Nat.mod_one]; rfl
  rw [Array.getElem?_map, Array.getElem?_eq_getElem (by simpa using h)]
  simp only [Array.getElem_range, Option.map_some]
  exact congrArg some (hz j)
theorem u8_made (W : World) (n : Nat) (t : TypeId) : U8A (W.alloc (.cells (madeCells #[.int .u8 0] n) t)) W.heap.size n (fun _ => 0) := by
  refine ⟨by simp, fun i hi => ?_⟩
  rw [World.cell?_alloc_new]
  exact made_one _ _ _ (by omega)
theorem bo_made (W : World) (n : Nat) (t : TypeId) : BoA (W.alloc (.cells (madeCells #[.bool false] n) t)) W.heap.size n (fun _ => false) := by
  refine ⟨by simp, fun i hi => ?_⟩
  rw [World.cell?_alloc_new]
  exact made_one _ _ _ (by omega)
theorem U8A.below {w w1 : World} {g n : Nat} {f : Nat → Int} (h : U8A w g n f) (hb : Below w.heap.size w w1) : U8A w1 g n f := h.only (Only.of_below hb []) (by simp)
theorem BoA.below {w w1 : World} {g n : Nat} {f : Nat → Bool} (h : BoA w g n f) (hb : Below w.heap.size w w1) : BoA w1 g n f := h.only (Only.of_below hb []) (by simp)
theorem may_bits {E L : Nat → Nat} {i : Nat} : (sBits fun s => decide (E (4 * i + s) < big) && !bef L i (E (4 * i + s)) s) = sBits (mayT E L i) := rfl
set_option maxRecDepth 100000 in
set_option maxHeartbeats 2000000 in
theorem findEarly_I (D : TmgD) (w : World) (hD : D.clk.Ok) (hT : Tmg w D) (L : Nat → Nat) (lg lc : Nat) (k4 : w.cell? ⟨D.tb, 4, none⟩ = some (.slice (some ⟨lg, 0, none⟩) D.T.xs.length lc)) (hL0 : TuA w lg D.T.xs.length L) (hon : ∀ p ∈ D.ps, onB D.T.xs p = true) :
    Calls Try.prog 68 #[.pointer (some ⟨D.tb, 0, none⟩)] w fun e w' => ∃ g c m, e = .returned (.tuple #[.slice (some ⟨g, 0, none⟩) D.T.xs.length c, .slice (some ⟨m, 0, none⟩) D.T.xs.length D.T.xs.length]) ∧ Below w.heap.size w w' ∧ w.heap.size ≤ g ∧ w.heap.size ≤ m ∧ TuA w' g D.T.xs.length (fixp (earlyF D.net L)) ∧ U8A w' m D.T.xs.length (fun i => sBits (mayT (fixp (earlyF D.net L)) L i)) := by
  have hn : D.T.xs.length ≤ 60 := hD.n
  have hN := net_ok hD
  obtain ⟨W1, hW1⟩ : ∃ W, W = w.alloc (.cells #[.pointer (some ⟨D.tb, 0, none⟩)] 102) := ⟨_, rfl⟩
  have B1 : Below w.heap.size w W1 := by rw [hW1]; exact (Below.refl _ _).alloc (Nat.le_refl _) _
  have z1 : W1.heap.size = w.heap.size + 1 := by rw [hW1]; simp
  have cx1 : W1.cell? ⟨w.heap.size, 0, none⟩ = some (.pointer (some ⟨D.tb, 0, none⟩)) := by rw [hW1]; simp [go_sem]
  have T1 := hT.below B1
  have t0 := T1.c0
  have s0 := T1.st.c0
  have hmk := make_any (P := Try.prog) 126 136 (.int .u8 0) 1 1 Try.underlying126 (by kernel_rfl) D.T.xs.length (by omega) (by omega)
  obtain ⟨W2, hW2⟩ : ∃ W, W = (W1.alloc (.cells (madeCells #[.int .u8 0] D.T.xs.length) 136)).alloc (.cells #[.slice (some ⟨W1.heap.size, 0, none⟩) D.T.xs.length D.T.xs.length] 126) := ⟨_, rfl⟩
  have b2 : Below W1.heap.size W1 W2 := by rw [hW2]; exact ((Below.refl _ _).alloc (Nat.le_refl _) _).alloc (by simp) _
  have B2 : Below w.heap.size w W2 := B1.trans (b2.mono (by omega))
  have cm : W2.cell? ⟨W1.heap.size + 1, 0, none⟩ = some (.slice (some ⟨W1.heap.size, 0, none⟩) D.T.xs.length D.T.xs.length) := by rw [hW2]; exact new_cell (by simp)
  have hum : U8A W2 W1.heap.size D.T.xs.length (fun _ => 0) := by rw [hW2]; exact (u8_made _ _ _).below ((Below.refl _ _).alloc (Nat.le_refl _) _)
  have hfm : Fz W2 W1.heap.size := by rw [hW2]; exact (fz_made _ _ _).below ((Below.refl _ _).alloc (Nat.le_refl _) _) (by simp)
  have z2 : W2.heap.size = W1.heap.size + 2 := by rw [hW2]; simp
  have cx2 := cell_on b2 cx1
  rw [z1] at hW2 cm hum hfm z2
  have HL := leadOkE D w hD hT L lg lc k4 hL0 (w.heap.size + 1) (w.heap.size + 1 + 1) w.heap.size (by omega) (by omega)
  have HS := hid (seek_I (earlyF D.net L) D w W2 hD (early_tick hN L) (early_slow hN L) (early_begin hN L) hT B2 _ _ _ _ _ HL (by intro q hq; simp only [List.mem_cons, List.not_mem_nil, or_false] at hq; omega)
    (fun E => ⟨cx2, cm, ⟨hum.lt, fun i hi => (hum.c i hi).trans (by simp [sBits_none])⟩, hfm⟩) hon)
  have HB := hid B2
  clear HL B1 B2 hum hfm hL0 k4
  go_enter Try.func68, Try.ntmps68
  go_upto_region 1 with fail
  rw [← hW1]
  clear hW1
  go_upto_region 2 with fail
  rw [← hW2]
  clear hW2
  go_wp2_with fail
  refine HS.out.mono ?_
  rintro e w3 ⟨g, c, rfl, hO, hg, hTu, hFz, hA⟩
  have B3 := hid (hO.below HB.out HB.out.size (by intro q hq; simp only [List.mem_cons, List.not_mem_nil, or_false] at hq; omega))
  obtain ⟨ax, am, au, af⟩ := hA
  have HT := hid hTu
  have HU := hid au
  clear hTu au af
  go_upto_region 3 with fail
  go_quiet (fail)
  go_wp2_with fail
  refine bodyPost_ret (v := .tuple #[.slice (some ⟨g, 0, none⟩) D.T.xs.length c, .slice (some ⟨w.heap.size + 1, 0, none⟩) D.T.xs.length D.T.xs.length]) (by simp [results, Try.results68, go_sem]) rfl ?_
  exact ⟨g, c, w.heap.size + 1, rfl, below_drewN B3.out _, by omega, by omega, HT.out.below (below_drewN (Below.refl _ _) _) HT.out.lt, HU.out.below (below_drewN (Below.refl _ _) _)⟩
set_option maxRecDepth 100000 in
set_option maxHeartbeats 2000000 in
theorem findLate_I (D : TmgD) (w : World) (hD : D.clk.Ok) (hT : Tmg w D) (S : Nat → Nat → Bool) (mg mc : Nat) (k5 : w.cell? ⟨D.tb, 5, none⟩ = some (.slice (some ⟨mg, 0, none⟩) D.T.xs.length mc)) (hS0 : U8A w mg D.T.xs.length (fun i => sBits (S i))) (hon : ∀ p ∈ D.ps, onB D.T.xs p = true) :
    Calls Try.prog 70 #[.pointer (some ⟨D.tb, 0, none⟩)] w fun e w' => ∃ g c, e = .returned (.slice (some ⟨g, 0, none⟩) D.T.xs.length c) ∧ Below w.heap.size w w' ∧ w.heap.size ≤ g ∧ TuA w' g D.T.xs.length (fixp (lateF D.net S)) := by
  have hn : D.T.xs.length ≤ 60 := hD.n
  have hN := net_ok hD
  obtain ⟨W1, hW1⟩ : ∃ W, W = w.alloc (.cells #[.pointer (some ⟨D.tb, 0, none⟩)] 102) := ⟨_, rfl⟩
  have B1 : Below w.heap.size w W1 := by rw [hW1]; exact (Below.refl _ _).alloc (Nat.le_refl _) _
  have z1 : W1.heap.size = w.heap.size + 1 := by rw [hW1]; simp
  have cx1 : W1.cell? ⟨w.heap.size, 0, none⟩ = some (.pointer (some ⟨D.tb, 0, none⟩)) := by rw [hW1]; simp [go_sem]
  have T1 := hT.below B1
  have t0 := T1.c0
  have s0 := T1.st.c0
  have hmk := make_any (P := Try.prog) 160 4 (.bool false) 1 1 Try.underlying160 (by kernel_rfl) D.T.xs.length (by omega) (by omega)
  obtain ⟨W2, hW2⟩ : ∃ W, W = (W1.alloc (.cells (madeCells #[.bool false] D.T.xs.length) 4)).alloc (.cells #[.slice (some ⟨W1.heap.size, 0, none⟩) D.T.xs.length D.T.xs.length] 160) := ⟨_, rfl⟩
  have b2 : Below W1.heap.size W1 W2 := by rw [hW2]; exact ((Below.refl _ _).alloc (Nat.le_refl _) _).alloc (by simp) _
  have B2 : Below w.heap.size w W2 := B1.trans (b2.mono (by omega))
  have cm : W2.cell? ⟨W1.heap.size + 1, 0, none⟩ = some (.slice (some ⟨W1.heap.size, 0, none⟩) D.T.xs.length D.T.xs.length) := by rw [hW2]; exact new_cell (by simp)
  have hum : BoA W2 W1.heap.size D.T.xs.length (fun _ => false) := by rw [hW2]; exact (bo_made _ _ _).below ((Below.refl _ _).alloc (Nat.le_refl _) _)
  have hfm : Fz W2 W1.heap.size := by rw [hW2]; exact (fz_made _ _ _).below ((Below.refl _ _).alloc (Nat.le_refl _) _) (by simp)
  have z2 : W2.heap.size = W1.heap.size + 2 := by rw [hW2]; simp
  have cx2 := cell_on b2 cx1
  rw [z1] at hW2 cm hum hfm z2
  have HL := leadOkL D w hD hT S mg mc k5 hS0 (w.heap.size + 1) (w.heap.size + 1 + 1) w.heap.size (by omega) (by omega)
  have HS := hid (seek_I (lateF D.net S) D w W2 hD (late_tick hN S) (late_slow hN S) (late_begin hN S) hT B2 _ _ _ _ _ HL (by intro q hq; simp only [List.mem_cons, List.not_mem_nil, or_false] at hq; omega)
    (fun E => ⟨cx2, cm, ⟨hum.lt, fun i hi => (hum.c i hi).trans (by simp [seenBy])⟩, hfm⟩) hon)
  have HB := hid B2
  clear HL B1 B2 hum hfm hS0 k5
  go_enter Try.func70, Try.ntmps70
  go_upto_region 1 with fail
  rw [← hW1]
  clear hW1
  go_upto_region 2 with fail
  rw [← hW2]
  clear hW2
  go_wp2_with fail
  refine HS.out.mono ?_
  rintro e w3 ⟨g, c, rfl, hO, hg, hTu, hFz, hA⟩
  have B3 := hid (hO.below HB.out HB.out.size (by intro q hq; simp only [List.mem_cons, List.not_mem_nil, or_false] at hq; omega))
  have HT := hid hTu
  clear hTu hA
  go_wp2_with fail
  go_ret
  exact ⟨g, c, rfl, B3.out, by omega, HT.out⟩
end Go.Proofs.Ytnabedhhflfepaa
