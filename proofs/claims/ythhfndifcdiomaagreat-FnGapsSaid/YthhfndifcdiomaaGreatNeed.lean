/-
  WithoutPieces, both the program's and the reference's.
  The program's search for gaps: ascending lists of so many numbers, in order, until one is enough. FewestGaps, the program's.
  slices.Grow at nothing and slices.Concat at two lists of numbers. NeedlessGap, both the program's and the reference's. NeedlessGap, the program's.
  Conditions: the fields are in their kinds' ranges. the depth is 4 at most; what 'enough' does is given by its contract. the fields are in their kinds' ranges. the lists are short. the fields are in their kinds' ranges.
-/
import Derived.Test.YthhfndifcdiomaaGreatWithoutI
import Derived.Test.YthhfndifcdiomaaGreatFewS
import Derived.Test.YthhfndifcdiomaaGreatSafe
import Derived.Test.YthhfndifcdiomaaGreatCostI
import Derived.Deep.RegionHeld3
import Derived.Test.YthhfndifcdiomaaGreatOb
import Derived.Lib.AppendZeros
import Derived.Test.YthhfndifcdiomaaGreatSafeI
namespace Go.Proofs.YthhfndifcdiomaaGreat
open Go.RowKit
set_option linter.unusedSimpArgs false
set_option linter.unusedVariables false

def WithoutPiecesG (wi hi : Int) (xs : List Pc) (gs : List Int) : (Int × Int × List Pc) × Int :=
  if gapsG wi hi xs gs = 0 then ((wi, hi, keepL gs 0 xs), 0) else ((0, 0, []), gapsG wi hi xs gs)
theorem WithoutPieces_len (wi hi : Int) (xs : List Pc) (gs : List Int) (h : xs.length ≤ 1048576) (_ : gs.length ≤ 1048576) : (WithoutPiecesG wi hi xs gs).1.2.2.length ≤ 1048576 := by
  unfold WithoutPiecesG
  split
  · have := keepL_len gs xs 0
    dsimp only
    omega
  · simp
set_option maxHeartbeats 400000 in
theorem WithoutPieces_S (w : World) (wi hi : Int) (wl : -128 ≤ wi) (wu : wi ≤ 127) (hl : -128 ≤ hi) (hu : hi ≤ 127) (a : Option Addr) (c : Nat) (xs : List Pc) (h : SlA Pc.enc 5 w a xs) (_ : a = none → c = 0) (ok : ∀ p ∈ xs, p.Ok) (hs : xs.length ≤ 1048576) (a2 : Option Addr) (c2 : Nat) (gs : List Int) (h2 : SlA en1 1 w a2 gs) (_ : a2 = none → c2 = 0) (ok2 : ∀ p ∈ gs, -9223372036854775808 ≤ p ∧ p ≤ 9223372036854775807) (_ : gs.length ≤ 1048576) :
    Calls Tryz.prog 25 #[.agg #[.int .i8 wi, .int .i8 hi, .slice a xs.length c], .slice a2 gs.length c2] w (ResB w (WithoutPiecesG wi hi xs gs).1.1 (WithoutPiecesG wi hi xs gs).1.2.1 (WithoutPiecesG wi hi xs gs).1.2.2 (WithoutPiecesG wi hi xs gs).2) := by
  obtain ⟨W0, hW0⟩ : ∃ W, W = (w.alloc (Obj.cells #[.int .i8 wi, .int .i8 hi, .slice a xs.length c] 27)).alloc (Obj.cells #[.int .i8 0, .int .i8 0, .slice none 0 0] 27) := ⟨_, rfl⟩
  have B0 : Below w.heap.size w W0 := by rw [hW0]; exact ((Below.refl _ _).alloc (Nat.le_refl _) _).alloc (by simp) _
  have hbx : BdA W0 w.heap.size wi hi a xs.length c := by rw [hW0]; exact ⟨by simp; omega, by simp [go_sem], by simp [go_sem], by simp [go_sem]⟩
  have hr0 : BoxB W0 (w.heap.size + 1) 0 0 none 0 0 := by rw [hW0]; exact ⟨⟨by simp, by simp [go_sem], by simp [go_sem], by simp [go_sem]⟩, by simp [go_sem], by simp [go_sem], by simp [go_sem]⟩
  have hz0 : W0.heap.size = w.heap.size + 1 + 1 := by rw [hW0]; simp
  have Hs := hid (given_S w.heap.size wi hi a c xs a2 c2 gs W0 ⟨wl, wu, hl, hu⟩ hs hbx (h.below B0) ok (h2.below B0) ok2)
  have Hw := hid (fun W (hB : Below W0.heap.size W0 W) => without_S w.heap.size wi hi a c xs a2 c2 gs W hs (hbx.below hB hbx.lt) (h.below (B0.trans (hB.mono (by omega)))) (h2.below (B0.trans (hB.mono (by omega)))))
  have HR := hid hr0
  have HB := hid B0
  have HZ := hid hz0
  have HX := hid hbx
  obtain ⟨⟨x9, x0, x1, x2⟩⟩ := And.intro hbx trivial
  obtain ⟨v, hv⟩ : ∃ v, gapsG wi hi xs gs = v := ⟨_, rfl⟩
  rw [hv] at Hs
  by_cases hv0 : v = 0
  · have G : WithoutPiecesG wi hi xs gs = ((wi, hi, keepL gs 0 xs), 0) := by unfold WithoutPiecesG; rw [hv, if_pos hv0]
    rw [G]
    subst hv0
    clear hv G
    go_enter Tryz.func25, Tryz.ntmps25
    go_wp2_with fail
    try rw [← hW0]
    clear hW0 hr0 B0 hbx
    refine Hs.out.mono ?_
    rintro e w1 ⟨rfl, hb1⟩
    go_wp2_with fail
    refine (Hw.out _ hb1).mono ?_
    rintro e w2 ⟨A, cA, rfl, hb2, own⟩
    have B2 := hid (HB.out.trans ((hb1.trans (hb2.mono hb1.size)).mono (by have := HZ.out; omega)))
    have hs1 := hb1.size
    have hs2 := hb2.size
    have hzz := HZ.out
    obtain ⟨⟨r9, r0, r1, r2⟩, z0, z1, z2⟩ := HR.out.below (hb1.trans (hb2.mono hb1.size)) HR.out.bd.lt
    have Ho := hid own
    clear own hb1 hb2
    go_wp2_with fail
    refine bodyPost_ret (v := .tuple #[.agg #[.int .i8 wi, .int .i8 hi, .slice A (keepL gs 0 xs).length cA], .int .i64 0]) (by simp [results, Tryz.results25, go_sem, r0, r1, r2, r9]) rfl ⟨A, cA, by simp, ?_, ?_⟩
    · repeat (refine Below.setCell ?_ (by simp; try omega) _)
      exact B2.out
    · have own := Ho.out
      repeat (refine World.ownsRow.kept (row := some (w.heap.size + 1)) ?_ (setCell_grown _ _ _ _) (.inr (fun e => by have := (own.lt _ e).1; omega)))
      exact own_low own (by omega)
  · have G : WithoutPiecesG wi hi xs gs = ((0, 0, []), v) := by unfold WithoutPiecesG; rw [hv, if_neg hv0]
    rw [G]
    have hne : (v != 0) = true := by simpa using hv0
    clear hv G hv0
    go_enter Tryz.func25, Tryz.ntmps25
    go_wp2_with fail
    try rw [← hW0]
    clear hW0 hr0 B0 hbx
    refine Hs.out.mono ?_
    rintro e w1 ⟨rfl, hb1⟩
    have B1 := hid (HB.out.trans (hb1.mono (by have := HZ.out; omega)))
    have hs1 := hb1.size
    have hzz := HZ.out
    obtain ⟨⟨r9, r0, r1, r2⟩, z0, z1, z2⟩ := HR.out.below hb1 HR.out.bd.lt
    clear hb1
    go_wp2_with fail
    refine bodyPost_ret (v := .tuple #[.agg #[.int .i8 0, .int .i8 0, .slice none 0 0], .int .i64 v]) (by simp [results, Tryz.results25, go_sem, r0, r1, r2, r9]) rfl ⟨none, 0, by simp, ?_, World.ownsRow_nil _ _ _ _⟩
    repeat (refine Below.setCell ?_ (by simp; try omega) _)
    exact B1.out
set_option maxHeartbeats 400000 in
theorem WithoutPieces_I (w : World) (wi hi : Int) (wl : -128 ≤ wi) (wu : wi ≤ 127) (hl : -128 ≤ hi) (hu : hi ≤ 127) (a : Option Addr) (c : Nat) (xs : List Pc) (h : SlA Pc.enc 5 w a xs) (_ : a = none → c = 0) (ok : ∀ p ∈ xs, p.Ok) (hs : xs.length ≤ 1048576) (a2 : Option Addr) (c2 : Nat) (gs : List Int) (h2 : SlA en1 1 w a2 gs) (_ : a2 = none → c2 = 0) (ok2 : ∀ p ∈ gs, -9223372036854775808 ≤ p ∧ p ≤ 9223372036854775807) (_ : gs.length ≤ 1048576) :
    Calls Tryz.prog 24 #[.agg #[.int .i8 wi, .int .i8 hi, .slice a xs.length c], .slice a2 gs.length c2] w (ResB w (WithoutPiecesG wi hi xs gs).1.1 (WithoutPiecesG wi hi xs gs).1.2.1 (WithoutPiecesG wi hi xs gs).1.2.2 (WithoutPiecesG wi hi xs gs).2) := by
  obtain ⟨W0, hW0⟩ : ∃ W, W = (w.alloc (Obj.cells #[.int .i8 wi, .int .i8 hi, .slice a xs.length c] 27)).alloc (Obj.cells #[.int .i8 0, .int .i8 0, .slice none 0 0] 27) := ⟨_, rfl⟩
  have B0 : Below w.heap.size w W0 := by rw [hW0]; exact ((Below.refl _ _).alloc (Nat.le_refl _) _).alloc (by simp) _
  have hbx : BdA W0 w.heap.size wi hi a xs.length c := by rw [hW0]; exact ⟨by simp; omega, by simp [go_sem], by simp [go_sem], by simp [go_sem]⟩
  have hr0 : BoxB W0 (w.heap.size + 1) 0 0 none 0 0 := by rw [hW0]; exact ⟨⟨by simp, by simp [go_sem], by simp [go_sem], by simp [go_sem]⟩, by simp [go_sem], by simp [go_sem], by simp [go_sem]⟩
  have hz0 : W0.heap.size = w.heap.size + 1 + 1 := by rw [hW0]; simp
  have Hs := hid (gapsOk_I wi hi a c xs a2 c2 gs W0 ⟨wl, wu, hl, hu⟩ hs (h.below B0) ok (h2.below B0) ok2)
  have Hw := hid (fun W (hB : Below W0.heap.size W0 W) => without_I w.heap.size wi hi a c xs a2 c2 gs W hs (hbx.below hB hbx.lt) (h.below (B0.trans (hB.mono (by omega)))) (h2.below (B0.trans (hB.mono (by omega)))))
  have HR := hid hr0
  have HB := hid B0
  have HZ := hid hz0
  have HX := hid hbx
  obtain ⟨⟨x9, x0, x1, x2⟩⟩ := And.intro hbx trivial
  obtain ⟨v, hv⟩ : ∃ v, gapsG wi hi xs gs = v := ⟨_, rfl⟩
  rw [hv] at Hs
  by_cases hv0 : v = 0
  · have G : WithoutPiecesG wi hi xs gs = ((wi, hi, keepL gs 0 xs), 0) := by unfold WithoutPiecesG; rw [hv, if_pos hv0]
    rw [G]
    subst hv0
    clear hv G
    go_enter Tryz.func24, Tryz.ntmps24
    go_wp2_with fail
    try rw [← hW0]
    clear hW0 hr0 B0 hbx
    refine Hs.out.mono ?_
    rintro e w1 ⟨rfl, hb1⟩
    go_wp2_with fail
    refine (Hw.out _ hb1).mono ?_
    rintro e w2 ⟨A, cA, rfl, hb2, own⟩
    have B2 := hid (HB.out.trans ((hb1.trans (hb2.mono hb1.size)).mono (by have := HZ.out; omega)))
    have hs1 := hb1.size
    have hs2 := hb2.size
    have hzz := HZ.out
    obtain ⟨⟨r9, r0, r1, r2⟩, z0, z1, z2⟩ := HR.out.below (hb1.trans (hb2.mono hb1.size)) HR.out.bd.lt
    have Ho := hid own
    clear own hb1 hb2
    go_wp2_with fail
    refine bodyPost_ret (v := .tuple #[.agg #[.int .i8 wi, .int .i8 hi, .slice A (keepL gs 0 xs).length cA], .int .i64 0]) (by simp [results, Tryz.results24, go_sem, r0, r1, r2, r9]) rfl ⟨A, cA, by simp, ?_, ?_⟩
    · repeat (refine Below.setCell ?_ (by simp; try omega) _)
      exact B2.out
    · have own := Ho.out
      repeat (refine World.ownsRow.kept (row := some (w.heap.size + 1)) ?_ (setCell_grown _ _ _ _) (.inr (fun e => by have := (own.lt _ e).1; omega)))
      exact own_low own (by omega)
  · have G : WithoutPiecesG wi hi xs gs = ((0, 0, []), v) := by unfold WithoutPiecesG; rw [hv, if_neg hv0]
    rw [G]
    have hne : (v != 0) = true := by simpa using hv0
    clear hv G hv0
    go_enter Tryz.func24, Tryz.ntmps24
    go_wp2_with fail
    try rw [← hW0]
    clear hW0 hr0 B0 hbx
    refine Hs.out.mono ?_
    rintro e w1 ⟨rfl, hb1⟩
    have B1 := hid (HB.out.trans (hb1.mono (by have := HZ.out; omega)))
    have hs1 := hb1.size
    have hzz := HZ.out
    obtain ⟨⟨r9, r0, r1, r2⟩, z0, z1, z2⟩ := HR.out.below hb1 HR.out.bd.lt
    clear hb1
    go_wp2_with fail
    refine bodyPost_ret (v := .tuple #[.agg #[.int .i8 0, .int .i8 0, .slice none 0 0], .int .i64 v]) (by simp [results, Tryz.results24, go_sem, r0, r1, r2, r9]) rfl ⟨none, 0, by simp, ?_, World.ownsRow_nil _ _ _ _⟩
    repeat (refine Below.setCell ?_ (by simp; try omega) _)
    exact B1.out
theorem clip_I (a : Option Addr) (n c : Nat) (w : World) (h : a = none → c = 0) (hn : n ≤ c) (hc : c ≤ 9223372036854775807) (hl : n ≤ 1048576) :
    Calls Tryz.prog 74 #[.slice a n c] w fun e w' => e = .returned (.slice a n n) ∧ w = w' := by
  cases a with
  | none =>
    obtain rfl := h rfl
    obtain rfl : n = 0 := by omega
    go_enter Tryz.func74, Tryz.ntmps74
    go_wp2_with fail
    go_ret
    exact ⟨rfl, rfl⟩
  | some b =>
    go_enter Tryz.func74, Tryz.ntmps74
    go_wp2_with fail
    go_ret
    exact ⟨rfl, rfl⟩
/-- The search's three boxes: what has been found, how many tries, the code. -/
structure SxI (Wb W : World) (R : FewR) : Prop where
  below : Below Wb.heap.size Wb W
  lt : Wb.heap.size + 3 ≤ W.heap.size
  ct : W.cell? ⟨Wb.heap.size + 1, 0, none⟩ = some (.int .i64 (R.2.2 : Nat))
  cc : W.cell? ⟨Wb.heap.size + 2, 0, none⟩ = some (.int .i64 R.2.1)
  co : ∃ A c, W.cell? ⟨Wb.heap.size, 0, none⟩ = some (.slice A R.1.length c) ∧ W.ownsRow (Wb.heap.size + 3) 2 1 (.slice A R.1.length c) R.1.length (R.1.flatMap en1)
  fz : ∀ i j, i < 3 → W.frozen? ⟨Wb.heap.size + i, j, none⟩ = false
theorem SxI.later {Wb W W1 : World} {R : FewR} (h : SxI Wb W R) (hb : Below W.heap.size W W1) : SxI Wb W1 R := by
  obtain ⟨A, c, h1, h2⟩ := h.co
  exact ⟨below_of h.below h.below.size hb, Nat.le_trans h.lt hb.size, cell_on hb h.ct, cell_on hb h.cc, ⟨A, c, cell_on hb h1, own_step h2 hb⟩, fun i j hi => (hb.frozen (p := ⟨_, j, none⟩) (by have := h.lt; show Wb.heap.size + i < _; omega)).trans (h.fz i j hi)⟩
theorem SxI.tick {Wb W : World} {l : List Int} {cd : Int} {t : Nat} (h : SxI Wb W (l, cd, t)) : SxI Wb (W.setCell ⟨Wb.heap.size + 1, 0, none⟩ (.int .i64 ((t : Int) + 1))) (l, cd, t + 1) := by
  obtain ⟨A, c, h1, h2⟩ := h.co
  refine ⟨h.below.setCell (by simp) _, by rw [World.size_setCell]; exact h.lt, ?_, ?_, ⟨A, c, ?_, ?_⟩, fun i j hi => ?_⟩
  · exact World.cell?_setCell_same _ _ _ (by rw [h.ct])
  · rw [World.cell?_setCell_other _ _ _ _ (by simp)]; exact h.cc
  · rw [World.cell?_setCell_other _ _ _ _ (by simp)]; exact h1
  · exact (Fr.store (X := Wb.heap.size) (n := 3) (i := 1) (j := 0) W _ (by omega)).own h2
  · rw [World.frozen?_setCell]; exact h.fz i j hi
theorem SxI.code {Wb W : World} {l : List Int} {cd : Int} {t : Nat} (h : SxI Wb W (l, cd, t)) (k : Int) : SxI Wb (W.setCell ⟨Wb.heap.size + 2, 0, none⟩ (.int .i64 k)) (l, k, t) := by
  obtain ⟨A, c, h1, h2⟩ := h.co
  refine ⟨h.below.setCell (by simp) _, by rw [World.size_setCell]; exact h.lt, ?_, ?_, ⟨A, c, ?_, ?_⟩, fun i j hi => ?_⟩
  · rw [World.cell?_setCell_other _ _ _ _ (by simp)]; exact h.ct
  · exact World.cell?_setCell_same _ _ _ (by rw [h.cc])
  · rw [World.cell?_setCell_other _ _ _ _ (by simp)]; exact h1
  · exact (Fr.store (X := Wb.heap.size) (n := 3) (i := 2) (j := 0) W _ (by omega)).own h2
  · rw [World.frozen?_setCell]; exact h.fz i j hi
theorem SxI.put {Wb W : World} {l gs : List Int} {cd : Int} {t : Nat} {A : Option Addr} {c : Nat} (h : SxI Wb W (l, cd, t)) (ho : W.ownsRow (Wb.heap.size + 3) 2 1 (.slice A gs.length c) gs.length (gs.flatMap en1)) : SxI Wb (W.setCell ⟨Wb.heap.size, 0, none⟩ (.slice A gs.length c)) (gs, cd, t) := by
  obtain ⟨_, _, h1, _⟩ := h.co
  refine ⟨h.below.setCell (by simp) _, by rw [World.size_setCell]; exact h.lt, ?_, ?_, ⟨A, c, ?_, ?_⟩, fun i j hi => ?_⟩
  · rw [World.cell?_setCell_other _ _ _ _ (by simp)]; exact h.ct
  · rw [World.cell?_setCell_other _ _ _ _ (by simp)]; exact h.cc
  · exact World.cell?_setCell_same _ _ _ (by rw [h1])
  · exact (Fr.store (X := Wb.heap.size) (n := 3) (i := 0) (j := 0) W _ (by omega)).own ho
  · rw [World.frozen?_setCell]; exact h.fz i j hi
theorem flatMap_nil_of {gs : List Int} (h : gs.length = 0) : gs.flatMap en1 = [] := by rw [List.eq_nil_of_length_eq_zero h]; rfl
def EnP (Wb W : World) (R : FewR) (e : Ending) (W' : World) : Prop := e = .returned (.bool (R.2.1 != 6)) ∧ Fr Wb.heap.size 3 W W' ∧ SxI Wb W' R
set_option maxRecDepth 100000 in
set_option maxHeartbeats 4000000 in
theorem chosen_I (Wb : World) (xs : List Pc) (most : Int) (bud : Nat) (hn : xs.length ≤ 60) (hbud : bud ≤ 300) (p1 p2 p3 p4 p5 p6 : Value)
    (HEN : ∀ (W : World) (gs : List Int) (A : Option Addr) (cA t : Nat), gs.length ≤ 4 → t ≤ bud → SxI Wb W ([], 6, t) → W.ownsRow (Wb.heap.size + 3) 2 1 (.slice A gs.length cA) gs.length (gs.flatMap en1) → ∀ m : Nat, m = gs.length →
      Calls Tryz.prog 50 #[.slice A m cA, p1, p2, p3, p4, p5, p6] W (EnP Wb W (leafG xs most bud gs t))) :
    ∀ (d : Nat) (W : World) (gs : List Int) (A : Option Addr) (cA from_ t : Nat), gs.length + d ≤ 4 → from_ ≤ xs.length → t ≤ bud → SxI Wb W ([], 6, t) →
      W.ownsRow (Wb.heap.size + 3) 2 1 (.slice A gs.length cA) gs.length (gs.flatMap en1) → ((gs = [] ∧ from_ = 0) ∨ ∃ (g' : List Int) (i : Nat), gs = g' ++ [(i : Int)] ∧ from_ = i + 1) → ∀ m : Nat, m = gs.length →
      Calls Tryz.prog 49 #[.int .i64 xs.length, .int .i64 d, .slice A m cA, .func (.func 50) #[] #[p1, p2, p3, p4, p5, p6]] W (EnP Wb W (lookG xs most bud d gs from_ t)) := by
  have hEN := hid HEN
  clear HEN
  intro d
  induction d with
  | zero =>
    intro W gs A cA from_ t hd hfr ht hS own hfrom m hm
    have HE := hid (hEN.out W gs A cA t (by omega) ht hS own m hm)
    rw [show lookG xs most bud 0 gs from_ t = leafG xs most bud gs t from rfl]
    generalize leafG xs most bud gs t = r at *
    clear own hS hfrom hm hd
    go_enter Tryz.func49, Tryz.ntmps49
    go_wp2_with (go_at_call 50; refine HE.out.mono ?_; rintro e w' ⟨rfl, hF, hS⟩)
    go_ret
    exact ⟨rfl, hF, hS⟩
  | succ d ih =>
    intro W gs A cA from_ t hd hfr ht hS own hfrom m hm
    have HM := hid hm
    rw [← hm] at hd own
    have hcap := own_caps own
    have HNC := hid (own_nilcase own)
    have hrow : SlA en1 1 W A gs := en1_row (by rw [← hm]; exact own : W.ownsRow (Wb.heap.size + 3) 2 1 (.slice A gs.length cA) gs.length (gs.flatMap en1))
    have hcase : (m = 0 ∧ from_ = 0) ∨ ∃ b o i0 K : Nat, A = some ⟨b, o, none⟩ ∧ K + 1 = m ∧ W.cell? ⟨b, o + K, none⟩ = some (.int .i64 (i0 : Int)) ∧ from_ = i0 + 1 := by
      rcases hfrom with ⟨h1, h2⟩ | ⟨g', i0, h1, h2⟩
      · exact .inl ⟨by rw [hm, h1]; rfl, h2⟩
      · have hl : gs.length = g'.length + 1 := by rw [h1, List.length_append]; rfl
        obtain ⟨b, o, rfl, hb, hc⟩ := en1_cells hrow (by omega)
        exact .inr ⟨b, o, i0, g'.length, rfl, by omega, hc g'.length _ (by rw [h1, List.getElem?_append_right (Nat.le_refl _), Nat.sub_self]; rfl), h2⟩
    clear hm hfrom hrow
    have HS := hid hS
    have HO := hid own
    clear hS own
    have hih := hid ih
    clear ih
    obtain ⟨f, hf⟩ : ∃ f : Nat → Nat → FewR, f = fun (i t : Nat) => lookG xs most bud d (gs ++ [(i : Int)]) (i + 1) t := ⟨_, rfl⟩
    have HF := hid (fun (i t : Nat) => (by rw [hf] : f i t = lookG xs most bud d (gs ++ [(i : Int)]) (i + 1) t))
    obtain ⟨R, hR⟩ : ∃ R, lookG xs most bud (d + 1) gs from_ t = R := ⟨_, rfl⟩
    have HLK := hid (show loopG f (xs.length - from_) from_ t = R by rw [← hR, hf]; rfl)
    rw [hR]
    clear hf hR
    obtain ⟨D, hD⟩ : ∃ D : Int, ((d + 1 : Nat) : Int) = D := ⟨_, rfl⟩
    rw [hD]
    have e1 : (D == 0) = false := by simp; omega
    have ws : IntKind.i64.wrap (D - 1) = (d : Int) := (IntWalk.i64_in _ (by omega)).trans (by omega)
    have hdm : m + d + 1 ≤ 4 := by omega
    clear hD hd
    rcases hcase with ⟨hm0, hf0⟩ | ⟨b, o, i0, K, rfl, hK, hcell, hf0⟩
    · have e3 : decide ((m : Int) > 0) = false := by rw [decide_eq_false_iff_not]; omega
      have e4 : decide (0 < m) = false := by rw [decide_eq_false_iff_not]; omega
      have HF0 := hid hf0
      clear hm0 hf0
      go_enter Tryz.func49, Tryz.ntmps49
      go_wp2_with fail
      clear e3 e4
      go_loopw [10] (fun iv wr => ∃ i t1 : Nat, from_ ≤ i ∧ i ≤ xs.length ∧ t1 ≤ bud ∧ iv = .int .i64 i ∧ SxI Wb wr ([], 6, t1) ∧ wr.ownsRow (Wb.heap.size + 3) 2 1 (.slice A m cA) m (gs.flatMap en1) ∧ Fr Wb.heap.size 3 W wr ∧ loopG f (xs.length - i) i t1 = R) (fun iv _ => xs.length - (intOf iv).toNat)
      case atStart => exact ⟨from_, t, Nat.le_refl _, hfr, ht, by rw [HF0.out]; rfl, HS.out, HO.out, Fr.refl _ _ _, HLK.out⟩
      case round =>
        obtain ⟨i, t1, hi1, hi2, ht1, rfl, hS, own, hFr, hlp⟩ := hrel
        have HS1 := hid hS
        have HO1 := hid own
        have HF1 := hid hFr
        have HL1 := hid hlp
        have hlW := hS.lt
        by_cases hlt : i < xs.length
        · have hdl : decide ((i : Int) < (xs.length : Int)) = true := by rw [decide_eq_true_iff]; omega
          have wi1 : IntKind.i64.wrap ((i : Int) + 1) = (i : Int) + 1 := IntWalk.i64_in _ (by omega)
          have HR3 := hid ((en1_row (by rw [← HM.out]; exact own : wr.ownsRow (Wb.heap.size + 3) 2 1 (.slice A gs.length cA) gs.length (gs.flatMap en1))).flat en1_length)
          have HCl := hid (fun W2 => clip_I A m cA W2 (fun h => HNC.out.elim (fun k => k.2) (fun k => absurd h k)) hcap.1 hcap.2 (by omega))
          have HFL := hid (flat_one gs (i : Int))
          obtain ⟨r, hr⟩ : ∃ r, f i t1 = r := ⟨_, rfl⟩
          have HRR := hid hr
          have HOK := hid (look_ok xs most bud d (gs ++ [(i : Int)]) (i + 1) t1 ht1)
          rw [← HF.out, hr] at HOK
          have HLN := hid (show (gs ++ [(i : Int)]).length = m + 1 by rw [List.length_append, List.length_singleton, ← HM.out])
          have HI := hid (fun W2 A2 c2 hS2 own2 => (show Calls Tryz.prog 49 #[.int .i64 xs.length, .int .i64 d, .slice A2 (m + 1) c2, .func (.func 50) #[] #[p1, p2, p3, p4, p5, p6]] W2 (EnP Wb W2 r) by
            rw [← hr, HF.out]
            exact hih.out W2 (gs ++ [(i : Int)]) A2 c2 (i + 1) t1 (by rw [HLN.out]; omega) (by omega) ht1 hS2 own2 (.inr ⟨gs, i, rfl, rfl⟩) (m + 1) HLN.out.symm))
          clear hS own hFr hlp hr
          go_wp2_with fail
          refine (HCl.out _).mono ?_
          rintro e w' ⟨rfl, rfl⟩
          go_wp2_with (at_builtin; refine app_grow 29 2 (.int .i64 0) 1 8 Tryz.underlying29 (by kernel_rfl) rfl (by decide) A m (gs.flatMap en1) ?c0 ?c1 ?c2 ?c3 (by decide) [.int .i64 (i : Int)] _ _ rfl rfl rfl _ rfl rfl rfl ?c4 ?_)
          case c0 => intro h; subst h; rcases HNC.out with k | k; have := hcap.1; omega; exact absurd rfl k
          case c1 => rw [flatMap_len en1_length, ← HM.out, Nat.mul_one]
          case c2 => intro b0 hb0 j u hj; obtain ⟨b1, o1, h1, h2⟩ := HR3.out (by rw [← HM.out]; exact Nat.pos_of_ne_zero (fun h => by rw [flatMap_nil_of (HM.out.symm.trans h)] at hj; simp at hj)); rw [hb0] at h1; cases h1; rw [Addr.add_lit]; exact h2 j u hj
          case c3 => omega
          case c4 => intro u hu; simp at hu; rcases hu with rfl; rfl
          intro A5 c5 w5 own5 hb5
          have HB5 := hid hb5
          have hz5 := hb5.size
          rw [← HFL.out] at own5
          have own5' : w5.ownsRow (Wb.heap.size + 3) 2 1 (.slice A5 (m + 1) c5) (m + 1) ((gs ++ [(i : Int)]).flatMap en1) := own_low own5 (by omega)
          rw [← HLN.out] at own5'
          have HI5 := hid (HI.out w5 A5 c5 (HS1.out.later hb5) own5')
          clear own5 own5' hb5
          go_wp2_with fail
          refine HI5.out.mono ?_
          rintro e w6 ⟨rfl, hF6, hS6⟩
          have F56 := (Fr.of_below (X := Wb.heap.size) (n := 3) HB5.out).trans hF6
          have HF6 := hid (HF1.out.trans F56)
          have HO6 := hid (F56.own HO1.out)
          have HS6 := hid hS6
          obtain ⟨rb, hrb⟩ : ∃ rb, (r.2.1 != 6) = rb := ⟨_, rfl⟩
          rw [hrb]
          have HRB := hid hrb
          clear F56 hF6 hS6 hrb
          cases rb with
          | false =>
            have h6 : r.2.1 = 6 := by have := HRB.out; simpa using this
            have hlp2 : loopG f (xs.length - (i + 1)) (i + 1) r.2.2 = R := by
              rw [← HL1.out, show xs.length - i = xs.length - (i + 1) + 1 by omega, loop_go (by rw [HRR.out]; exact h6), HRR.out]
            have HL2 := hid hlp2
            have hs2 : SxI Wb w6 ([], 6, r.2.2) := by
              have e1 := HOK.out.2.1 (by rw [h6]; decide)
              have hs := HS6.out
              rw [show r = ([], 6, r.2.2) from Prod.ext e1 (Prod.ext h6 rfl)] at hs
              exact hs
            have HS7 := hid hs2
            clear hlp2 h6 hs2
            go_wp2_with fail
            exact ⟨⟨i + 1, r.2.2, by omega, by omega, HOK.out.2.2.1, by go_num, HS7.out, HO6.out, HF6.out, HL2.out⟩, by simp [intOf]; omega⟩
          | true =>
            have h6 : r.2.1 ≠ 6 := by have := HRB.out; simpa using this
            have hlp2 : R = r := by
              rw [← HL1.out, show xs.length - i = xs.length - (i + 1) + 1 by omega, loop_at (by rw [HRR.out]; exact h6), HRR.out]
            have HL2 := hid hlp2
            clear hlp2 h6
            go_wp2_with fail
            go_ret
            rw [HL2.out]
            exact ⟨ret_bool HRB.out.symm, HF6.out, HS6.out⟩
        · obtain rfl : i = xs.length := by omega
          have hdl : decide ((xs.length : Int) < (xs.length : Int)) = false := by rw [decide_eq_false_iff_not]; omega
          clear hS own hFr hlp
          go_wp2_with fail
          go_ret
          have hl := HL1.out
          rw [Nat.sub_self] at hl
          rw [← hl]
          exact ⟨rfl, HF1.out, HS1.out⟩
    · have e3 : decide ((m : Int) > 0) = true := by rw [decide_eq_true_iff]; omega
      have e4 : decide (0 < m) = true := by rw [decide_eq_true_iff]; omega
      have ew : IntKind.i64.wrap ((m : Int) - 1) = (K : Int) := (IntWalk.i64_in _ (by omega)).trans (by omega)
      have hKm : K < m := by omega
      have wi0 : IntKind.i64.wrap ((i0 : Int) + 1) = (i0 : Int) + 1 := IntWalk.i64_in _ (by omega)
      have HF0 := hid hf0
      clear hf0 hK
      go_enter Tryz.func49, Tryz.ntmps49
      go_wp2_with fail
      clear e3 e4 hcell ew wi0 hKm
      go_loopw [10] (fun iv wr => ∃ i t1 : Nat, from_ ≤ i ∧ i ≤ xs.length ∧ t1 ≤ bud ∧ iv = .int .i64 i ∧ SxI Wb wr ([], 6, t1) ∧ wr.ownsRow (Wb.heap.size + 3) 2 1 (.slice (some ⟨b, o, none⟩) m cA) m (gs.flatMap en1) ∧ Fr Wb.heap.size 3 W wr ∧ loopG f (xs.length - i) i t1 = R) (fun iv _ => xs.length - (intOf iv).toNat)
      case atStart => exact ⟨from_, t, Nat.le_refl _, hfr, ht, by rw [HF0.out]; rfl, HS.out, HO.out, Fr.refl _ _ _, HLK.out⟩
      case round =>
        obtain ⟨i, t1, hi1, hi2, ht1, rfl, hS, own, hFr, hlp⟩ := hrel
        have HS1 := hid hS
        have HO1 := hid own
        have HF1 := hid hFr
        have HL1 := hid hlp
        have hlW := hS.lt
        by_cases hlt : i < xs.length
        · have hdl : decide ((i : Int) < (xs.length : Int)) = true := by rw [decide_eq_true_iff]; omega
          have wi1 : IntKind.i64.wrap ((i : Int) + 1) = (i : Int) + 1 := IntWalk.i64_in _ (by omega)
          have HR3 := hid ((en1_row (by rw [← HM.out]; exact own : wr.ownsRow (Wb.heap.size + 3) 2 1 (.slice (some ⟨b, o, none⟩) gs.length cA) gs.length (gs.flatMap en1))).flat en1_length)
          have HCl := hid (fun W2 => clip_I (some ⟨b, o, none⟩) m cA W2 (fun h => HNC.out.elim (fun k => k.2) (fun k => absurd h k)) hcap.1 hcap.2 (by omega))
          have HFL := hid (flat_one gs (i : Int))
          obtain ⟨r, hr⟩ : ∃ r, f i t1 = r := ⟨_, rfl⟩
          have HRR := hid hr
          have HOK := hid (look_ok xs most bud d (gs ++ [(i : Int)]) (i + 1) t1 ht1)
          rw [← HF.out, hr] at HOK
          have HLN := hid (show (gs ++ [(i : Int)]).length = m + 1 by rw [List.length_append, List.length_singleton, ← HM.out])
          have HI := hid (fun W2 A2 c2 hS2 own2 => (show Calls Tryz.prog 49 #[.int .i64 xs.length, .int .i64 d, .slice A2 (m + 1) c2, .func (.func 50) #[] #[p1, p2, p3, p4, p5, p6]] W2 (EnP Wb W2 r) by
            rw [← hr, HF.out]
            exact hih.out W2 (gs ++ [(i : Int)]) A2 c2 (i + 1) t1 (by rw [HLN.out]; omega) (by omega) ht1 hS2 own2 (.inr ⟨gs, i, rfl, rfl⟩) (m + 1) HLN.out.symm))
          clear hS own hFr hlp hr
          go_wp2_with fail
          refine (HCl.out _).mono ?_
          rintro e w' ⟨rfl, rfl⟩
          go_wp2_with (at_builtin; refine app_grow 29 2 (.int .i64 0) 1 8 Tryz.underlying29 (by kernel_rfl) rfl (by decide) (some ⟨b, o, none⟩) m (gs.flatMap en1) ?c0 ?c1 ?c2 ?c3 (by decide) [.int .i64 (i : Int)] _ _ rfl rfl rfl _ rfl rfl rfl ?c4 ?_)
          case c0 => intro h; cases h
          case c1 => rw [flatMap_len en1_length, ← HM.out, Nat.mul_one]
          case c2 => intro b0 hb0 j u hj; obtain ⟨b1, o1, h1, h2⟩ := HR3.out (by rw [← HM.out]; exact Nat.pos_of_ne_zero (fun h => by rw [flatMap_nil_of (HM.out.symm.trans h)] at hj; simp at hj)); rw [hb0] at h1; cases h1; rw [Addr.add_lit]; exact h2 j u hj
          case c3 => omega
          case c4 => intro u hu; simp at hu; rcases hu with rfl; rfl
          intro A5 c5 w5 own5 hb5
          have HB5 := hid hb5
          have hz5 := hb5.size
          rw [← HFL.out] at own5
          have own5' : w5.ownsRow (Wb.heap.size + 3) 2 1 (.slice A5 (m + 1) c5) (m + 1) ((gs ++ [(i : Int)]).flatMap en1) := own_low own5 (by omega)
          rw [← HLN.out] at own5'
          have HI5 := hid (HI.out w5 A5 c5 (HS1.out.later hb5) own5')
          clear own5 own5' hb5
          go_wp2_with fail
          refine HI5.out.mono ?_
          rintro e w6 ⟨rfl, hF6, hS6⟩
          have F56 := (Fr.of_below (X := Wb.heap.size) (n := 3) HB5.out).trans hF6
          have HF6 := hid (HF1.out.trans F56)
          have HO6 := hid (F56.own HO1.out)
          have HS6 := hid hS6
          obtain ⟨rb, hrb⟩ : ∃ rb, (r.2.1 != 6) = rb := ⟨_, rfl⟩
          rw [hrb]
          have HRB := hid hrb
          clear F56 hF6 hS6 hrb
          cases rb with
          | false =>
            have h6 : r.2.1 = 6 := by have := HRB.out; simpa using this
            have hlp2 : loopG f (xs.length - (i + 1)) (i + 1) r.2.2 = R := by
              rw [← HL1.out, show xs.length - i = xs.length - (i + 1) + 1 by omega, loop_go (by rw [HRR.out]; exact h6), HRR.out]
            have HL2 := hid hlp2
            have hs2 : SxI Wb w6 ([], 6, r.2.2) := by
              have e1 := HOK.out.2.1 (by rw [h6]; decide)
              have hs := HS6.out
              rw [show r = ([], 6, r.2.2) from Prod.ext e1 (Prod.ext h6 rfl)] at hs
              exact hs
            have HS7 := hid hs2
            clear hlp2 h6 hs2
            go_wp2_with fail
            exact ⟨⟨i + 1, r.2.2, by omega, by omega, HOK.out.2.2.1, by go_num, HS7.out, HO6.out, HF6.out, HL2.out⟩, by simp [intOf]; omega⟩
          | true =>
            have h6 : r.2.1 ≠ 6 := by have := HRB.out; simpa using this
            have hlp2 : R = r := by
              rw [← HL1.out, show xs.length - i = xs.length - (i + 1) + 1 by omega, loop_at (by rw [HRR.out]; exact h6), HRR.out]
            have HL2 := hid hlp2
            clear hlp2 h6
            go_wp2_with fail
            go_ret
            rw [HL2.out]
            exact ⟨ret_bool HRB.out.symm, HF6.out, HS6.out⟩
        · obtain rfl : i = xs.length := by omega
          have hdl : decide ((xs.length : Int) < (xs.length : Int)) = false := by rw [decide_eq_false_iff_not]; omega
          clear hS own hFr hlp
          go_wp2_with fail
          go_ret
          have hl := HL1.out
          rw [Nat.sub_self] at hl
          rw [← hl]
          exact ⟨rfl, HF1.out, HS1.out⟩
set_option maxRecDepth 100000 in
set_option maxHeartbeats 4000000 in
theorem enough_I (Wb : World) (bb mb qb : Nat) (wi hi : Int) (a : Option Addr) (c : Nat) (xs : List Pc) (most : Int) (bud : Nat) (hB : BrdOk xs) (hn : xs.length ≤ 60) (hbud : bud ≤ 300)
    (HBD : ∀ W, Below Wb.heap.size Wb W → BdA W bb wi hi a xs.length c ∧ SlA Pc.enc 5 W a xs) (hm : Wb.cell? ⟨mb, 0, none⟩ = some (.int .i64 most)) (hq : Wb.cell? ⟨qb, 0, none⟩ = some (.int .i64 (bud : Nat)))
    (W : World) (gs : List Int) (A : Option Addr) (cA t : Nat) (hg : gs.length ≤ 4) (ht : t ≤ bud) (hS : SxI Wb W ([], 6, t)) (own : W.ownsRow (Wb.heap.size + 3) 2 1 (.slice A gs.length cA) gs.length (gs.flatMap en1)) (m : Nat) (hml : m = gs.length) :
    Calls Tryz.prog 50 #[.slice A m cA, .pointer (some ⟨Wb.heap.size + 1, 0, none⟩), .pointer (some ⟨qb, 0, none⟩), .pointer (some ⟨Wb.heap.size + 2, 0, none⟩), .pointer (some ⟨bb, 0, none⟩), .pointer (some ⟨mb, 0, none⟩), .pointer (some ⟨Wb.heap.size, 0, none⟩)] W (EnP Wb W (leafG xs most bud gs t)) := by
  have HM := hid hml
  clear hml
  have HS := hid hS
  have HO := hid own
  have HBD := hid HBD
  have ct := hS.ct
  have cc := hS.cc
  have cq := hS.below.cell (p := ⟨qb, 0, none⟩) (World.block_lt_of_cell? Wb ⟨qb, 0, none⟩ hq)
  rw [hq] at cq
  have fz1 := hS.fz 1 0 (by omega)
  have fz2 := hS.fz 2 0 (by omega)
  by_cases htb : t = bud
  · have e1 : ((t : Int) == (bud : Int)) = true := by simp [htb]
    have HR := hid (show leafG xs most bud gs t = ([], 7, t) by unfold leafG; rw [if_pos htb])
    clear htb own hS
    go_enter Tryz.func50, Tryz.ntmps50
    go_wp2_with fail
    go_ret
    rw [HR.out]
    exact ⟨rfl, Fr.store (X := Wb.heap.size) (n := 3) (i := 2) (j := 0) W _ (by omega), HS.out.code 7⟩
  · have e1 : ((t : Int) == (bud : Int)) = false := by simp; omega
    have hw1 : IntKind.i64.wrap ((t : Int) + 1) = (t : Int) + 1 := IntWalk.i64_in _ (by omega)
    obtain ⟨W1, hW1⟩ : ∃ W1, W1 = W.setCell ⟨Wb.heap.size + 1, 0, none⟩ (.int .i64 ((t : Int) + 1)) := ⟨_, rfl⟩
    have hS1 : SxI Wb W1 ([], 6, t + 1) := by rw [hW1]; exact HS.out.tick
    have hF1 : Fr Wb.heap.size 3 W W1 := by
      rw [hW1]
      exact Fr.store (X := Wb.heap.size) (n := 3) (i := 1) (j := 0) W (.int .i64 ((t : Int) + 1)) (by omega)
    have own1 := hF1.own HO.out
    have d1 : W1.cell? ⟨mb, 0, none⟩ = some (.int .i64 most) := (hS1.below.cell (p := ⟨mb, 0, none⟩) (World.block_lt_of_cell? Wb ⟨mb, 0, none⟩ hm)).trans hm
    obtain ⟨hbd, hsl⟩ := HBD.out W1 hS1.below
    have hrow1 : SlA en1 1 W1 A gs := en1_row own1
    have HWo := hid (fun W2 (hb : Below W1.heap.size W1 W2) => without_lenT_I bb wi hi a c xs A cA gs W2 (by omega) (hbd.below hb hbd.lt) (hsl.below hb) (hrow1.below hb) m HM.out)
    have HCl := hid (fun W2 (hb : Below W1.heap.size W1 W2) => (show Calls Tryz.prog 39 #[.slice A m cA] W2 fun e w' => ∃ A c', e = .returned (.slice A m c') ∧ Below W2.heap.size W2 w' ∧ w'.ownsRow W2.heap.size 2 1 (.slice A gs.length c') gs.length (gs.flatMap en1) by
      rw [HM.out]
      exact clone_en1_I A cA gs W2 (hrow1.below hb) (fun h => (own_nilcase own1).elim (fun k => k.2) (fun k => absurd h k)) (by omega)))
    have HK := hid (hB.part (keep_sub gs xs 0))
    have HLd := hid (show leftG xs gs = costW (keepL gs 0 xs) from rfl)
    have hlf : leafG xs most bud gs t = if leftG xs gs ≤ most then (gs, 0, t + 1) else ([], 6, t + 1) := by unfold leafG; rw [if_neg htb]
    have HO1 := hid own1
    have HS1 := hid hS1
    have HF1 := hid hF1
    obtain ⟨L, hL⟩ : ∃ L, leftG xs gs = L := ⟨_, rfl⟩
    rw [hL] at hlf HLd
    clear htb own own1 hS hS1 hF1 hbd hsl hL hrow1
    generalize keepL gs 0 xs = ks at *
    by_cases hlm : L ≤ most
    · have e2 : decide (L > most) = false := by rw [decide_eq_false_iff_not]; omega
      have HR := hid (hlf.trans (if_pos hlm))
      clear hlf hlm
      go_enter Tryz.func50, Tryz.ntmps50
      go_wp2_with fail
      rw [← hW1]
      clear hW1
      go_region_held3 (fun w' => w'.cell? ⟨mb, 0, none⟩ = some (.int .i64 most))
        (first | with_reducible exact d1 | exact cell_on ((Below.refl _ _).drew) d1 | exact cell_on hbV0 (cell_on ((Below.refl _ _).drew) d1) | exact cell_on hbV1 (cell_on hbV0 (cell_on ((Below.refl _ _).drew) d1)))
        (first
          | (go_at_call 46; refine (HWo.out _ ?hb0).mono ?_; (case hb0 => first | exact (Below.refl _ _).drew | exact Below.refl _ _); rintro e V0 ⟨A0, k0, rfl, hbV0, own0⟩; have HC0 := hid (worstOf_I wi hi A0 k0 ks V0 HK.out (SlA.of_own Pc.enc_length own0)))
          | (go_at_call 32; refine HC0.out.mono ?_; rintro e V1 ⟨rfl, hbV1⟩; rw [← HLd.out]))
      have hbV := below_of ((Below.refl W1.heap.size W1).drew) (by simp) (below_of hbV0 hbV0.size hbV1)
      have HBV := hid hbV
      have HSV := hid (HS1.out.later hbV)
      have hCV := HCl.out V1 hbV
      have HCV := hid hCV
      clear hbV hbV0 hbV1 own0 hCV
      go_wp2_with fail
      refine HCV.out.mono ?_
      rintro e V2 ⟨A2, c2, rfl, hb2, own2⟩
      have HS2 := hid (HSV.out.later hb2)
      have co2 : ∃ u, V2.cell? ⟨Wb.heap.size, 0, none⟩ = some u := by obtain ⟨_, _, h, _⟩ := HS2.out.co; exact ⟨_, h⟩
      obtain ⟨u2, co2⟩ := co2
      have cc2 := HS2.out.cc
      have fa2 : V2.frozen? ⟨Wb.heap.size, 0, none⟩ = false := HS2.out.fz 0 0 (by omega)
      have fb2 := HS2.out.fz 2 0 (by omega)
      have HB2 := hid (below_of HBV.out HBV.out.size hb2)
      have HO2 := hid own2
      clear own2 hb2
      go_wp2_with fail
      go_ret
      rw [HR.out]
      have hlt := HS1.out.lt
      have ho3 : V2.ownsRow (Wb.heap.size + 3) 2 1 (.slice A2 gs.length c2) gs.length (gs.flatMap en1) := own_low HO2.out (Nat.le_trans hlt HBV.out.size)
      refine ⟨rfl, ?_, ?_⟩
      · exact ((HF1.out.trans (Fr.of_below HB2.out)).trans (Fr.store (X := Wb.heap.size) (n := 3) (i := 0) (j := 0) V2 _ (by omega))).trans (Fr.store (X := Wb.heap.size) (n := 3) (i := 2) (j := 0) _ _ (by omega))
      · rw [HM.out]
        exact (HS2.out.put ho3).code 0
    · have e2 : decide (L > most) = true := by rw [decide_eq_true_iff]; omega
      have HR := hid (hlf.trans (if_neg hlm))
      clear hlf hlm
      go_enter Tryz.func50, Tryz.ntmps50
      go_wp2_with fail
      rw [← hW1]
      clear hW1
      go_region_held3 (fun w' => w'.cell? ⟨mb, 0, none⟩ = some (.int .i64 most))
        (first | with_reducible exact d1 | exact cell_on ((Below.refl _ _).drew) d1 | exact cell_on hbV0 (cell_on ((Below.refl _ _).drew) d1) | exact cell_on hbV1 (cell_on hbV0 (cell_on ((Below.refl _ _).drew) d1)))
        (first
          | (go_at_call 46; refine (HWo.out _ ?hb0).mono ?_; (case hb0 => first | exact (Below.refl _ _).drew | exact Below.refl _ _); rintro e V0 ⟨A0, k0, rfl, hbV0, own0⟩; have HC0 := hid (worstOf_I wi hi A0 k0 ks V0 HK.out (SlA.of_own Pc.enc_length own0)))
          | (go_at_call 32; refine HC0.out.mono ?_; rintro e V1 ⟨rfl, hbV1⟩; rw [← HLd.out]))
      have hbV := below_of ((Below.refl W1.heap.size W1).drew) (by simp) (below_of hbV0 hbV0.size hbV1)
      have HBV := hid hbV
      have HSV := hid (HS1.out.later hbV)
      clear hbV hbV0 hbV1 own0
      go_wp2_with fail
      go_ret
      rw [HR.out]
      exact ⟨rfl, HF1.out.trans (Fr.of_below HBV.out), HSV.out⟩
theorem sxi_new (w : World) : SxI w (((w.alloc (.cells #[.slice none 0 0] 29)).alloc (.cells #[.int .i64 0] 2)).alloc (.cells #[.int .i64 6] 2)) ([], 6, 0) := by
  refine ⟨(((Below.refl _ _).alloc (Nat.le_refl _) _).alloc (by simp) _).alloc (by simp; omega) _, ?_, ?_, ?_, ⟨none, 0, ?_, World.ownsRow_nil _ _ _ _⟩, fun i j hi => ?_⟩
  · simp only [World.size_alloc]; omega
  · simp [go_sem]
  · simp [go_sem]
  · simp [go_sem]
  · have : i = 0 ∨ i = 1 ∨ i = 2 := by omega
    rcases this with rfl | rfl | rfl <;> simp [go_sem]
set_option maxRecDepth 100000 in
set_option maxHeartbeats 4000000 in
theorem FewestGaps_I (w : World) (wi hi : Int) (wl : -128 ≤ wi) (wu : wi ≤ 127) (hl : -128 ≤ hi) (hu : hi ≤ 127) (a : Option Addr) (c : Nat) (xs : List Pc) (h : SlA Pc.enc 5 w a xs) (_ : a = none → c = 0) (ok : ∀ p ∈ xs, p.Ok) (hs : xs.length ≤ 1048576) (most : Int) (ml : -9223372036854775808 ≤ most) (mu : most ≤ 9223372036854775807) (cnt : Int) (cl : -9223372036854775808 ≤ cnt) (cu : cnt ≤ 9223372036854775807) (bud : Int) (bl : -9223372036854775808 ≤ bud) (bu : bud ≤ 9223372036854775807) :
    Calls Tryz.prog 17 #[.agg #[.int .i8 wi, .int .i8 hi, .slice a xs.length c], .int .i64 most, .int .i64 cnt, .int .i64 bud] w (ResS2 en1 1 2 w (FewestGapsG wi hi xs most cnt bud).1 (FewestGapsG wi hi xs most cnt bud).2.1 (FewestGapsG wi hi xs most cnt bud).2.2) := by
  obtain ⟨W0, hW0⟩ : ∃ W, W = ((w.alloc (.cells #[.int .i8 wi, .int .i8 hi, .slice a xs.length c] 27)).alloc (.cells #[.int .i64 most] 2)).alloc (.cells #[.int .i64 bud] 2) := ⟨_, rfl⟩
  have B00 : Below w.heap.size w (w.alloc (.cells #[.int .i8 wi, .int .i8 hi, .slice a xs.length c] 27)) := (Below.refl _ _).alloc (Nat.le_refl _) _
  have B01 : Below (w.heap.size + 1) (w.alloc (.cells #[.int .i8 wi, .int .i8 hi, .slice a xs.length c] 27)) W0 := by rw [hW0]; exact ((Below.refl _ _).alloc (by simp) _).alloc (by simp) _
  have B0 : Below w.heap.size w W0 := B00.trans (B01.mono (by omega))
  have hbd : BdA W0 w.heap.size wi hi a xs.length c := (bd_box w wi hi a xs.length c 27).below B01 (by omega)
  have d0 : W0.cell? ⟨w.heap.size, 0, none⟩ = some (.int .i8 wi) := hbd.c0
  have d1 : W0.cell? ⟨w.heap.size, 1, none⟩ = some (.int .i8 hi) := hbd.c1
  have d2 : W0.cell? ⟨w.heap.size, 2, none⟩ = some (.slice a xs.length c) := hbd.c2
  have HM0 := hid (show W0.cell? ⟨w.heap.size + 1, 0, none⟩ = some (.int .i64 most) by rw [hW0]; simp [go_sem])
  have HQ0 := hid (show W0.cell? ⟨w.heap.size + 2, 0, none⟩ = some (.int .i64 bud) by rw [hW0]; simp [go_sem])
  have HAs := hid (builtOk_I wi hi a c xs W0 ⟨wl, wu, hl, hu⟩ (h.below B0) ok)
  have HB0 := hid B0
  have HBD := hid (fun W (hb : Below W0.heap.size W0 W) => (⟨hbd.below hb hbd.lt, (h.below B0).below hb⟩ : BdA W w.heap.size wi hi a xs.length c ∧ SlA Pc.enc 5 W a xs))
  obtain ⟨v, hv⟩ : ∃ v, builtG wi hi xs = v := ⟨_, rfl⟩
  rw [hv] at HAs
  by_cases hv0 : v = 0
  · subst hv0
    obtain ⟨hB, hn⟩ := built_zero hv
    by_cases hbad : most < 0 ∨ inB cnt 0 4 = false ∨ inB bud 0 300 = false
    · have HG := hid (show FewestGapsG wi hi xs most cnt bud = ([], 0, 2) by unfold FewestGapsG; rw [if_pos hv, if_pos hbad])
      have hcases : (decide (most < 0) = true) ∨ (decide (most < 0) = false ∧ inB cnt 0 4 = false) ∨ (decide (most < 0) = false ∧ inB cnt 0 4 = true ∧ inB bud 0 300 = false) := by
        by_cases h1 : most < 0
        · exact .inl (decide_eq_true h1)
        · cases h2 : inB cnt 0 4 with
          | false => exact .inr (.inl ⟨decide_eq_false h1, rfl⟩)
          | true => exact .inr (.inr ⟨decide_eq_false h1, rfl, by rcases hbad with h | h | h; exact absurd h h1; rw [h2] at h; cases h; exact h⟩)
      clear B0 B00 B01 hbd h hv hbad
      rcases hcases with k1 | ⟨k1, k2⟩ | ⟨k1, k2, k3⟩
      all_goals (
        go_enter Tryz.func17, Tryz.ntmps17
        go_upto_region 1 with fail
        rw [← hW0]
        clear hW0
        go_wp2_with fail
        refine HAs.out.mono ?_
        rintro e w1 ⟨rfl, hb1⟩
        have m1 := cell_on hb1 HM0.out
        have q1 : w1.cell? ⟨w.heap.size + 1 + 1, 0, none⟩ = _ := cell_on hb1 HQ0.out
        have HB1 := hid (below_of HB0.out HB0.out.size hb1)
        clear hb1 d0 d1 d2
        go_wp2_with (go_at_call 48; refine (in_I _ _ _ _).mono ?_; rintro e w' ⟨rfl, rfl⟩)
        refine bodyPost_ret (v := .tuple #[.slice none 0 0, .int .i64 0, .int .i64 2]) (by simp [results, Tryz.results17, go_sem]) rfl ?_
        rw [HG.out]
        exact ResS2.nil HB1.out)
    · have hgood : (¬ most < 0) ∧ inB cnt 0 4 = true ∧ inB bud 0 300 = true := by
        refine ⟨fun h => hbad (.inl h), ?_, ?_⟩
        · cases h2 : inB cnt 0 4 with
          | true => rfl
          | false => exact absurd (.inr (.inl h2)) hbad
        · cases h2 : inB bud 0 300 with
          | true => rfl
          | false => exact absurd (.inr (.inr h2)) hbad
      obtain ⟨k0, k2, k3⟩ := hgood
      have k1 : decide (most < 0) = false := decide_eq_false k0
      have rc := inB_iff.1 k2
      have rb := inB_iff.1 k3
      obtain ⟨C, rfl⟩ : ∃ C : Nat, cnt = C := ⟨cnt.toNat, by omega⟩
      obtain ⟨B, rfl⟩ : ∃ B : Nat, bud = B := ⟨bud.toNat, by omega⟩
      obtain ⟨R, hR⟩ : ∃ R, fewT xs most B C = R := ⟨_, rfl⟩
      have HG := hid (show FewestGapsG wi hi xs most C B = if R.2.1 = 0 then (R.1, (R.2.2 : Int), 0) else ([], 0, R.2.1) by unfold FewestGapsG; rw [if_pos hv, if_neg hbad, Int.toNat_natCast, Int.toNat_natCast, hR])
      obtain ⟨f, hf⟩ : ∃ f : Nat → Nat → FewR, f = fun (n t : Nat) => lookG xs most B n [] 0 t := ⟨_, rfl⟩
      have HF := hid (fun (n t : Nat) => (by rw [hf] : f n t = lookG xs most B n [] 0 t))
      have HLK := hid (show loopG f (C + 1) 0 0 = R by rw [← hR, hf]; rfl)
      have HB := hid hB
      have hC4 : C ≤ 4 := by omega
      have hB3 : B ≤ 300 := by omega
      have hwc : IntKind.i64.wrap ((C : Int) + 1) = (C : Int) + 1 := IntWalk.i64_in _ (by omega)
      clear B0 B00 B01 hbd h hv hbad hR hf k0 rc rb hB
      go_enter Tryz.func17, Tryz.ntmps17
      go_upto_region 1 with fail
      rw [← hW0]
      clear hW0
      go_wp2_with fail
      refine HAs.out.mono ?_
      rintro e w1 ⟨rfl, hb1⟩
      have m1 := cell_on hb1 HM0.out
      have q1 : w1.cell? ⟨w.heap.size + 1 + 1, 0, none⟩ = _ := cell_on hb1 HQ0.out
      have HM1 := hid m1
      have HQ1 := hid q1
      have HB1 := hid (below_of HB0.out HB0.out.size hb1)
      have HW1 := hid hb1
      have hz1 := HB1.out.size
      clear hb1 d0 d1 d2
      have HLo := hid (chosen_I w1 xs most B (by omega) hB3 _ _ _ _ _ _ (enough_I w1 w.heap.size (w.heap.size + 1) (w.heap.size + 2) wi hi a c xs most B HB.out (by omega) hB3 (fun W hW => HBD.out W (below_of HW1.out HW1.out.size hW)) HM1.out HQ1.out))
      obtain ⟨W2, hW2⟩ : ∃ W, W = ((w1.alloc (.cells #[.slice none 0 0] 29)).alloc (.cells #[.int .i64 0] 2)).alloc (.cells #[.int .i64 6] 2) := ⟨_, rfl⟩
      have HS2 := hid (show SxI w1 W2 ([], 6, 0) by rw [hW2]; exact sxi_new w1)
      go_wp2_with (go_at_call 48; refine (in_I _ _ _ _).mono ?_; rintro e w' ⟨rfl, rfl⟩)
      rw [← hW2]
      clear hW2 m1 q1
      go_loopw [35] (fun iv wr => ∃ n t : Nat, n ≤ C + 1 ∧ t ≤ B ∧ iv = .int .i64 n ∧ SxI w1 wr ([], 6, t) ∧ Fr w1.heap.size 3 W2 wr ∧ loopG f (C + 1 - n) n t = R) (fun iv _ => C + 1 - (intOf iv).toNat)
      case atStart => exact ⟨0, 0, Nat.zero_le _, Nat.zero_le _, rfl, HS2.out, Fr.refl _ _ _, HLK.out⟩
      case round =>
        obtain ⟨n, t, hn1, ht, rfl, hS, hFr, hlp⟩ := hrel
        have HS := hid hS
        have HFr := hid hFr
        have HLp := hid hlp
        have hlt := hS.lt
        have ccr : wr.cell? ⟨w1.heap.size + 1 + 1, 0, none⟩ = _ := hS.cc
        have q2 := (HBD.out wr (below_of HW1.out HW1.out.size hS.below)).1.c2
        have HT := hid (below_of HB1.out hz1 hS.below)
        clear hS hFr hlp
        by_cases hnC : n ≤ C
        · have hd : decide ((n : Int) < (C : Int) + 1) = true := by rw [decide_eq_true_iff]; omega
          obtain ⟨r, hr⟩ : ∃ r, f n t = r := ⟨_, rfl⟩
          have HRR := hid hr
          have HOK := hid (look_ok xs most B n [] 0 t ht)
          rw [← HF.out, hr] at HOK
          have HI := hid (show Calls Tryz.prog 49 #[.int .i64 xs.length, .int .i64 n, .slice none 0 0, .func (.func 50) #[] #[.pointer (some ⟨w1.heap.size + 1, 0, none⟩), .pointer (some ⟨w.heap.size + 1 + 1, 0, none⟩), .pointer (some ⟨w1.heap.size + 1 + 1, 0, none⟩), .pointer (some ⟨w.heap.size, 0, none⟩), .pointer (some ⟨w.heap.size + 1, 0, none⟩), .pointer (some ⟨w1.heap.size, 0, none⟩)]] wr (EnP w1 wr r) by
            rw [← hr, HF.out]
            exact HLo.out n wr [] none 0 0 t (by simp; omega) (Nat.zero_le _) ht HS.out (World.ownsRow_nil _ _ _ _) (.inl ⟨rfl, rfl⟩) 0 rfl)
          clear hr ccr
          go_wp2_with fail
          refine HI.out.mono ?_
          rintro e w6 ⟨rfl, hF6, hS6⟩
          have HF6 := hid (HFr.out.trans hF6)
          have HS6 := hid hS6
          have cc6 : w6.cell? ⟨w1.heap.size + 1 + 1, 0, none⟩ = _ := hS6.cc
          have ct6 := hS6.ct
          obtain ⟨A6, c6, co6, own6⟩ := hS6.co
          have HN6 := hid own6
          have HT6 := hid (below_of HB1.out hz1 hS6.below)
          have hlt6 := hS6.lt
          obtain ⟨rc, hrc⟩ : ∃ rc, r.2.1 = rc := ⟨_, rfl⟩
          rw [hrc] at cc6 ⊢
          have HRC := hid hrc
          have hco := HOK.out.1
          rw [hrc] at hco
          clear hF6 hS6 own6 hrc
          rcases hco with rfl | rfl | rfl
          · have hlp2 : R = r := by
              rw [← HLp.out, show C + 1 - n = C + 1 - (n + 1) + 1 by omega, loop_at (by rw [HRR.out, HRC.out]; decide), HRR.out]
            have HL2 := hid hlp2
            clear hlp2
            go_wp2_with fail
            go_region
            go_wp2_with fail
            refine bodyPost_ret (v := .tuple #[.slice A6 r.1.length c6, .int .i64 (r.2.2 : Nat), .int .i64 0]) (by simp [results, Tryz.results17, go_sem]) rfl ?_
            rw [HG.out, HL2.out, if_pos HRC.out]
            exact ⟨A6, c6, rfl, HT6.out.drew, own_low (own_step HN6.out ((Below.refl _ _).drew)) (by omega)⟩
          · have hlp2 : loopG f (C + 1 - (n + 1)) (n + 1) r.2.2 = R := by
              rw [← HLp.out, show C + 1 - n = C + 1 - (n + 1) + 1 by omega, loop_go (by rw [HRR.out, HRC.out]), HRR.out]
            have HL2 := hid hlp2
            have hs2 : SxI w1 w6 ([], 6, r.2.2) := by
              have e1 := HOK.out.2.1 (by rw [HRC.out]; decide)
              have hs := HS6.out
              rw [show r = ([], 6, r.2.2) from Prod.ext e1 (Prod.ext HRC.out rfl)] at hs
              exact hs
            have HS7 := hid hs2
            clear hlp2 hs2 cc6 ct6 co6
            go_wp2_with fail
            exact ⟨⟨n + 1, r.2.2, by omega, HOK.out.2.2.1, by go_num, HS7.out, HF6.out, HL2.out⟩, by simp [intOf]; omega⟩
          · have hlp2 : R = r := by
              rw [← HLp.out, show C + 1 - n = C + 1 - (n + 1) + 1 by omega, loop_at (by rw [HRR.out, HRC.out]; decide), HRR.out]
            have HL2 := hid hlp2
            clear hlp2
            go_wp2_with fail
            go_region
            go_wp2_with fail
            refine bodyPost_ret (v := .tuple #[.slice none 0 0, .int .i64 0, .int .i64 7]) (by simp [results, Tryz.results17, go_sem]) rfl ?_
            rw [HG.out, HL2.out, if_neg (by rw [HRC.out]; decide), HRC.out]
            exact ResS2.nil HT6.out.drew
        · obtain rfl : n = C + 1 := by omega
          have hd : decide (((C + 1 : Nat) : Int) < (C : Int) + 1) = false := by rw [decide_eq_false_iff_not]; omega
          have hd2 : decide ((C : Int) + 1 < (C : Int) + 1) = false := by rw [decide_eq_false_iff_not]; omega
          have hl := HLp.out
          rw [Nat.sub_self] at hl
          have HR := hid hl.symm
          clear hl
          go_wp2_with fail
          go_region
          go_wp2_with fail
          refine bodyPost_ret (v := .tuple #[.slice none 0 0, .int .i64 0, .int .i64 6]) (by simp [results, Tryz.results17, go_sem]) rfl ?_
          have e6 : R = ([], 6, t) := HR.out
          rw [HG.out, e6]
          exact ResS2.nil HT.out.drew
  · have HG := hid (show FewestGapsG wi hi xs most cnt bud = ([], 0, v) by unfold FewestGapsG; rw [hv, if_neg hv0])
    have hne : (v != 0) = true := by simpa using hv0
    have heq : (v == 0) = false := by simpa using hv0
    clear B0 B00 B01 hbd h hv hv0
    go_enter Tryz.func17, Tryz.ntmps17
    go_upto_region 1 with fail
    rw [← hW0]
    clear hW0
    go_wp2_with fail
    refine HAs.out.mono ?_
    rintro e w1 ⟨rfl, hb1⟩
    have HB1 := hid (below_of HB0.out HB0.out.size hb1)
    clear hb1
    go_wp2_with fail
    refine bodyPost_ret (v := .tuple #[.slice none 0 0, .int .i64 0, .int .i64 v]) (by simp [results, Tryz.results17, go_sem]) rfl ?_
    rw [HG.out]
    exact ResS2.nil HB1.out
theorem Ob.lencap {α : Type} {enc : α → List Value} {n : Nat} {E : TypeId} {b0 lo hi : Nat} {w : World} {A : Option Addr} {c : Nat} {xs : List α} (h : Ob enc n E b0 lo hi w A c xs) : xs.length ≤ c := by
  rcases h.own.2 with ⟨h1, h2⟩ | ⟨g, cap, cur, h1, _, _, h2, _⟩
  · omega
  · injection h1 with _ _ h3
    omega
def sz2 (a b : Nat) : Nat → Nat
  | 0 => 0
  | 1 => a
  | _ => a + b
def pre2 (l1 l2 : List Int) : Nat → List Int
  | 0 => []
  | 1 => l1
  | _ => l1 ++ l2
set_option maxRecDepth 100000 in
theorem grow_en1_I (n : Nat) (w : World) (hn : n ≤ 2097152) :
    Calls Tryz.prog 77 #[.slice none 0 0, .int .i64 n] w fun e w' => ∃ A c, e = .returned (.slice A 0 c) ∧ w'.ownsRow w.heap.size 2 1 (.slice A 0 c) 0 [] ∧ Below w.heap.size w w' := by
  have hneg : decide ((n : Int) < 0) = false := by rw [decide_eq_false_iff_not]; omega
  have hw0 : IntKind.i64.wrap (n : Int) = (n : Int) := IntWalk.i64_in _ (by omega)
  have hw1 : IntKind.i64.wrap ((n : Int) - 0) = (n : Int) := by rw [Int.sub_zero]; exact hw0
  by_cases h0 : n = 0
  · subst h0
    go_enter Tryz.func77, Tryz.ntmps77
    go_wp2_with fail
    go_ret
    exact ⟨none, 0, rfl, World.ownsRow_nil _ _ _ _, Below.refl _ _⟩
  · have hpos : decide ((n : Int) > 0) = true := by rw [decide_eq_true_iff]; omega
    obtain ⟨i0, hi0, hz0, hz1, hz2⟩ := info_parts (show (Tryz.prog.info? 2).map (fun i => (i.zero, i.size, i.bytes)) = some (some (.int .i64 0), 1, 8) by kernel_rfl)
    have hz := fun ty => Lib.run_append_nil_zeros (P := Tryz.prog) w 29 3 ty 2 i0 (.int .i64 0) .i64 .i64 Tryz.underlying29 Tryz.underlying3 hi0 hz0 n (by omega) (by rw [hz1]; omega) (by omega) (by rw [hz2]; omega)
    obtain ⟨G, hG⟩ : ∃ G, G = grownCap w n 0 2 := ⟨_, rfl⟩
    have hGn : n ≤ G := by rw [hG]; exact grownCap_ge w _ _ _
    have hGm : G ≤ maxLen := by rw [hG]; exact grownCap_le_maxLen w n 0 2 (by unfold maxLen; omega)
    rw [← hG] at hz
    obtain ⟨ROW, hROW⟩ : ∃ ROW : Array Value, ROW = Builtin.zeroCells (Value.int .i64 0).cells n ++ Builtin.zeroCells (Value.int .i64 0).cells (G - n) := ⟨_, rfl⟩
    rw [← hROW] at hz
    have hRs : ROW.size = G * 1 := by
      rw [hROW, Array.size_append]
      simp [Builtin.zeroCells, Value.cells]
      omega
    have HO := hid (World.ownsRow_made w.drew ROW G (base := w.heap.size) (e := 2) (size := 1) (by simp) hGm hRs)
    have HB := hid ((Below.refl w.heap.size w).drew.alloc (by simp) (.cells ROW 2))
    clear hG hROW hRs hi0 hz0 hz1 hz2
    go_enter Tryz.func77, Tryz.ntmps77
    go_wp2_with (at_builtin; refine Lib.wpList_append_run _ rfl _ _ _ _ rfl _ _ rfl rfl _ _ (hz _) ?_)
    go_ret
    exact ⟨some ⟨w.heap.size, 0, none⟩, G, rfl, HO.out, HB.out⟩
set_option maxRecDepth 100000 in
set_option maxHeartbeats 1000000 in
theorem concat_I (q : Nat) (l1 l2 : List Int) (A1 A2 : Option Addr) (c1 c2 : Nat) (w : World) (h1 : SlA en1 1 w A1 l1) (h2 : SlA en1 1 w A2 l2) (n1 : A1 = none ∧ c1 = 0 ∨ A1 ≠ none) (n2 : A2 = none ∧ c2 = 0 ∨ A2 ≠ none)
    (hq0 : w.cell? ⟨q, 0, none⟩ = some (.slice A1 l1.length c1)) (hq1 : w.cell? ⟨q, 1, none⟩ = some (.slice A2 l2.length c2)) (hs : l1.length + l2.length ≤ 1048576) :
    Calls Tryz.prog 56 #[.slice (some ⟨q, 0, none⟩) 2 2] w (ResR en1 1 2 w (l1 ++ l2)) := by
  have HG := hid (fun W => grow_en1_I (l1.length + l2.length) W (by omega))
  have H1 := hid h1
  have H2 := hid h2
  have hlen : (l1 ++ l2).length = l1.length + l2.length := List.length_append
  have HL := hid hlen
  have e1 : l1.length = 0 → l1 = [] := List.eq_nil_of_length_eq_zero
  clear h1 h2 hlen e1
  obtain ⟨m1, hm1⟩ : ∃ m, l1.length = m := ⟨_, rfl⟩
  obtain ⟨m2, hm2⟩ : ∃ m, l2.length = m := ⟨_, rfl⟩
  rw [hm1] at hq0
  rw [hm2] at hq1
  rw [hm1, hm2] at hs HG HL
  have HM1 := hid hm1
  have HM2 := hid hm2
  clear hm1 hm2
  go_enter Tryz.func56, Tryz.ntmps56
  go_wp2_with fail
  go_loopw [3, 11] (fun sv kv wr => ∃ k : Nat, k ≤ 2 ∧ kv = .int .i64 k ∧ sv = .int .i64 (sz2 m1 m2 k : Nat) ∧ wr = w) (fun _ kv _ => 2 - (intOf kv).toNat)
  case atStart => exact ⟨0, by omega, rfl, rfl, rfl⟩
  case round =>
    obtain ⟨k, hk, rfl, rfl, hww⟩ := hrel
    have hww2 := hww.symm
    subst hww2
    clear hww
    rcases (by omega : k = 0 ∨ k = 1 ∨ k = 2) with rfl | rfl | rfl
    · have hw : IntKind.i64.wrap ((m1 : Nat) : Int) = (m1 : Int) := IntWalk.i64_in _ (by omega)
      have hw0 : IntKind.i64.wrap (0 + ((m1 : Nat) : Int)) = (m1 : Int) := by rw [Int.zero_add]; exact hw
      have hn0 : decide ((m1 : Int) < 0) = false := by rw [decide_eq_false_iff_not]; omega
      rw [show sz2 m1 m2 0 = 0 from rfl]
      go_wp2_with fail
      exact ⟨⟨1, by omega, rfl, rfl, by first | rfl | trivial⟩, by simp [intOf]⟩
    · have hw0 : IntKind.i64.wrap (((m1 : Nat) : Int) + ((m2 : Nat) : Int)) = (m1 : Int) + (m2 : Int) := IntWalk.i64_in _ (by omega)
      have hn0 : decide ((m1 : Int) + (m2 : Int) < 0) = false := by rw [decide_eq_false_iff_not]; omega
      rw [show sz2 m1 m2 1 = m1 from rfl]
      go_wp2_with fail
      exact ⟨⟨2, by omega, rfl, by rw [show sz2 m1 m2 2 = m1 + m2 from rfl]; go_num, by first | rfl | trivial⟩, by simp [intOf]⟩
    · have hcast : ((m1 + m2 : Nat) : Int) = (m1 : Int) + (m2 : Int) := by omega
      rw [show sz2 m1 m2 2 = m1 + m2 from rfl]
      have HC := hid hcast
      clear hcast
      go_wp2_with fail
      refine (HG.out _).mono ?_
      rintro e w1 ⟨A0, c0, rfl, own0, hb0⟩
      have HO0 := hid own0
      have HB0 := hid hb0
      have g0 := cell_on hb0 hq0
      have g1 := cell_on hb0 hq1
      clear own0 hb0
      go_wp2_with fail
      go_loopw [6, 27] (fun o kv wr => ∃ (k : Nat) (A : Option Addr) (cc : Nat), k ≤ 2 ∧ kv = .int .i64 k ∧ o = .slice A (sz2 m1 m2 k) cc ∧ wr.ownsRow w.heap.size 2 1 (.slice A (sz2 m1 m2 k) cc) (sz2 m1 m2 k) ((pre2 l1 l2 k).flatMap en1) ∧ Below w.heap.size w wr) (fun _ kv _ => 2 - (intOf kv).toNat)
      case atStart => exact ⟨0, A0, c0, by omega, rfl, rfl, HO0.out, HB0.out⟩
      case round =>
        obtain ⟨k, A, cc, hk, rfl, rfl, own, hbl⟩ := hrel
        have Ho := hid own
        have HB := hid hbl
        have hz := hbl.size
        have y0 := cell_on hbl hq0
        have y1 := cell_on hbl hq1
        rcases (by omega : k = 0 ∨ k = 1 ∨ k = 2) with rfl | rfl | rfl
        · have Hc := hid ((H1.out.below hbl).flat en1_length)
          rw [HM1.out] at Hc
          have hfl : (l1.flatMap en1).length = m1 * 1 := by rw [flatMap_len en1_length, HM1.out]
          clear own hbl
          rw [show sz2 m1 m2 0 = 0 from rfl] at Ho
          try rw [show sz2 m1 m2 0 = 0 from rfl]
          go_wp2_with (at_builtin; refine app_many rfl _ _ 29 rfl w.heap.size 2 (.int .i64 0) 1 8 Tryz.underlying29 (by kernel_rfl) rfl (by decide) _ 0 ((pre2 l1 l2 0).flatMap en1) rfl Ho.out A1 m1 c1 (l1.flatMap en1) rfl ?c1 ?c6 ?c2 ?c3 ?c4 (by decide) ?c5 ?_)
          case c1 => exact hfl
          case c6 => exact Hc.out
          case c2 => exact oneCell_flat (fun p u hu => by simp [en1] at hu; subst hu; rfl) _
          case c3 => exact fun _ => n1
          case c4 => omega
          case c5 => exact hz
          intro v4 w4 own4 hg4 hat4
          obtain ⟨A4, c4, rfl⟩ := own_slice own4
          have HB4 := hid (HB.out.grown hg4 hz (fun g hg => (Ho.out.lt g hg).1))
          have HO4 := hid own4
          clear own4 hg4 hat4
          go_wp2_with fail
          refine ⟨⟨1, A4, c4, by omega, rfl, rfl, ?_, HB4.out⟩, by simp [intOf]⟩
          have := HO4.out
          simpa [pre2, sz2] using this
        · have Hc := hid ((H2.out.below hbl).flat en1_length)
          rw [HM2.out] at Hc
          have hfl : (l2.flatMap en1).length = m2 * 1 := by rw [flatMap_len en1_length, HM2.out]
          clear own hbl
          rw [show sz2 m1 m2 1 = m1 from rfl] at Ho
          try rw [show sz2 m1 m2 1 = m1 from rfl]
          go_wp2_with (at_builtin; refine app_many rfl _ _ 29 rfl w.heap.size 2 (.int .i64 0) 1 8 Tryz.underlying29 (by kernel_rfl) rfl (by decide) _ m1 ((pre2 l1 l2 1).flatMap en1) rfl Ho.out A2 m2 c2 (l2.flatMap en1) rfl ?c1 ?c6 ?c2 ?c3 ?c4 (by decide) ?c5 ?_)
          case c1 => exact hfl
          case c6 => exact Hc.out
          case c2 => exact oneCell_flat (fun p u hu => by simp [en1] at hu; subst hu; rfl) _
          case c3 => exact fun _ => n2
          case c4 => omega
          case c5 => exact hz
          intro v4 w4 own4 hg4 hat4
          obtain ⟨A4, c4, rfl⟩ := own_slice own4
          have HB4 := hid (HB.out.grown hg4 hz (fun g hg => (Ho.out.lt g hg).1))
          have HO4 := hid own4
          clear own4 hg4 hat4
          go_wp2_with fail
          refine ⟨⟨2, A4, c4, by omega, rfl, rfl, ?_, HB4.out⟩, by simp [intOf]⟩
          have := HO4.out
          rw [show pre2 l1 l2 2 = l1 ++ l2 from rfl, List.flatMap_append]
          exact this
        · clear own hbl
          rw [show sz2 m1 m2 2 = m1 + m2 from rfl] at Ho
          try rw [show sz2 m1 m2 2 = m1 + m2 from rfl]
          go_wp2_with fail
          go_ret
          have := Ho.out
          rw [show pre2 l1 l2 2 = l1 ++ l2 from rfl] at this
          exact ⟨A, cc, by rw [HL.out]; rfl, HB.out, by rw [HL.out]; exact this⟩
/-- Gaps without one of them. -/
def lessG (gs : List Int) (i : Nat) : List Int := gs.take i ++ gs.drop (i + 1)
theorem less_len {gs : List Int} {i : Nat} (h : i < gs.length) : (lessG gs i).length = 0 + i + (gs.length - (i + 1)) := by
  unfold lessG
  rw [List.length_append, List.length_take, List.length_drop]
  omega
def firstOk (p : Nat → Bool) : Nat → Option Nat
  | 0 => none
  | k + 1 => match firstOk p k with
    | some i => some i
    | none => if p k = true then some k else none
theorem firstOk_next {p : Nat → Bool} {k : Nat} (h : firstOk p k = none) (hp : p k = false) : firstOk p (k + 1) = none := by
  unfold firstOk
  rw [h, hp]
  rfl
theorem firstOk_at {p : Nat → Bool} {k : Nat} (h : firstOk p k = none) (hp : p k = true) : ∀ n, k < n → firstOk p n = some k
  | 0, hk => by omega
  | n + 1, hk => by
    unfold firstOk
    by_cases e : k = n
    · subst e
      rw [h, hp]
      rfl
    · rw [firstOk_at h hp n (by omega)]
def okN (xs : List Pc) (gs : List Int) (most : Int) (i : Nat) : Bool := decide (leftG xs (lessG gs i) ≤ most)
def needR (gs : List Int) : Option Nat → Int × Int
  | some i => (gs.getD i 0, 0)
  | none => (0, 6)
def NeedlessGapG (wi hi : Int) (xs : List Pc) (gs : List Int) (most : Int) : Int × Int :=
  if gapsG wi hi xs gs = 0 then (if leftG xs gs ≤ most then needR gs (firstOk (okN xs gs most) gs.length) else (0, 4)) else (0, gapsG wi hi xs gs)
theorem drop_en1 {w : World} {b o : Nat} {l : List Int} (h : SlA en1 1 w (some ⟨b, o, none⟩) l) (k : Nat) : SlA en1 1 w (some ⟨b, o + k, none⟩) (l.drop k) := by
  refine ⟨Nat.le_trans (by rw [List.length_drop]; omega) h.small, fun hp => ?_⟩
  rw [List.length_drop] at hp
  obtain ⟨b', o', e, hlt, hc⟩ := h.cells (by omega)
  cases e
  refine ⟨b, o + k, rfl, hlt, fun i p hi j u hu => ?_⟩
  rw [List.getElem?_drop] at hi
  have := hc (k + i) p hi j u hu
  rw [show o + k + (i * 1 + j) = o + ((k + i) * 1 + j) by omega]
  exact this
theorem empty_en1 {w : World} {a : Option Addr} {l : List Int} (h : l.length = 0) : SlA en1 1 w a l := ⟨by omega, fun hp => by omega⟩
theorem left_len_S (b : Nat) (wi hi : Int) (a : Option Addr) (c : Nat) (xs : List Pc) (a2 : Option Addr) (c2 : Nat) (gs : List Int) (w : World) (hB : BrdOk xs) (hn : xs.length ≤ 60) (hb : BdA w b wi hi a xs.length c) (h : SlA Pc.enc 5 w a xs) (h2 : SlA en1 1 w a2 gs) (m : Nat) (hm : m = gs.length) :
    Calls Tryz.prog 54 #[.pointer (some ⟨b, 0, none⟩), .slice a2 m c2] w fun e w' => e = .returned (.int .i64 (leftG xs gs)) ∧ Below w.heap.size w w' := by
  subst hm
  exact left_S b wi hi a c xs a2 c2 gs w hB hn hb h h2
theorem without_len_I (b : Nat) (wi hi : Int) (a : Option Addr) (c : Nat) (xs : List Pc) (a2 : Option Addr) (c2 : Nat) (gs : List Int) (w : World) (hs : xs.length ≤ 1048576) (hb : BdA w b wi hi a xs.length c) (h : SlA Pc.enc 5 w a xs) (h2 : SlA en1 1 w a2 gs) (m : Nat) (hm : m = gs.length) :
    Calls Tryz.prog 46 #[.pointer (some ⟨b, 0, none⟩), .slice a2 m c2] w (ResBd w wi hi (keepL gs 0 xs)) := by
  subst hm
  exact without_I b wi hi a c xs a2 c2 gs w hs hb h h2
set_option maxRecDepth 100000 in
set_option maxHeartbeats 2000000 in
theorem NeedlessGap_S (w : World) (wi hi : Int) (wl : -128 ≤ wi) (wu : wi ≤ 127) (hl : -128 ≤ hi) (hu : hi ≤ 127) (a : Option Addr) (c : Nat) (xs : List Pc) (h : SlA Pc.enc 5 w a xs) (_ : a = none → c = 0) (ok : ∀ p ∈ xs, p.Ok) (hs : xs.length ≤ 1048576) (a2 : Option Addr) (c2 : Nat) (gs : List Int) (h2 : SlA en1 1 w a2 gs) (_ : a2 = none → c2 = 0) (hcap : gs.length ≤ c2) (ok2 : ∀ p ∈ gs, -9223372036854775808 ≤ p ∧ p ≤ 9223372036854775807) (hs2 : gs.length ≤ 1048576) (most : Int) (ml : -9223372036854775808 ≤ most) (mu : most ≤ 9223372036854775807) :
    Calls Tryz.prog 27 #[.agg #[.int .i8 wi, .int .i8 hi, .slice a xs.length c], .slice a2 gs.length c2, .int .i64 most] w fun e w' => e = .returned (.tuple #[.int .i64 (NeedlessGapG wi hi xs gs most).1, .int .i64 (NeedlessGapG wi hi xs gs most).2]) ∧ Below w.heap.size w w' := by
  obtain ⟨W0, hW0⟩ : ∃ W, W = w.alloc (.cells #[.int .i8 wi, .int .i8 hi, .slice a xs.length c] 27) := ⟨_, rfl⟩
  have B0 : Below w.heap.size w W0 := by rw [hW0]; exact (Below.refl _ _).alloc (Nat.le_refl _) _
  have hbd : BdA W0 w.heap.size wi hi a xs.length c := by rw [hW0]; exact bd_box _ _ _ _ _ _ _
  have HGi := hid (given_S w.heap.size wi hi a c xs a2 c2 gs W0 ⟨wl, wu, hl, hu⟩ hs hbd (h.below B0) ok (h2.below B0) ok2)
  have HB0 := hid B0
  obtain ⟨v, hv⟩ : ∃ v, gapsG wi hi xs gs = v := ⟨_, rfl⟩
  rw [hv] at HGi
  by_cases hv0 : v = 0
  · have G := hid (show NeedlessGapG wi hi xs gs most = if leftG xs gs ≤ most then needR gs (firstOk (okN xs gs most) gs.length) else (0, 4) by unfold NeedlessGapG; rw [hv, if_pos hv0])
    subst hv0
    obtain ⟨hB, hn, _⟩ := gaps_zero hv
    have HL := hid (fun W (hb : Below W0.heap.size W0 W) A3 c3 l m (hl : SlA en1 1 W A3 l) (hm : m = l.length) => left_len_S w.heap.size wi hi a c xs A3 c3 l W hB (by omega) (hbd.below hb hbd.lt) ((h.below B0).below hb) hl m hm)
    have HGS := hid (fun W (hb : Below W0.heap.size W0 W) => (h2.below B0).below hb)
    obtain ⟨L, hLg⟩ : ∃ L, leftG xs gs = L := ⟨_, rfl⟩
    rw [hLg] at G
    have HLG := hid hLg
    clear B0 hbd h h2 hv hLg
    by_cases hLm : L ≤ most
    · rw [if_pos hLm] at G
      have eL : decide (L > most) = false := by rw [decide_eq_false_iff_not]; omega
      go_enter Tryz.func27, Tryz.ntmps27
      go_wp2_with fail
      rw [← hW0]
      clear hW0
      refine HGi.out.mono ?_
      rintro e w1 ⟨rfl, hb1⟩
      have HL1 := hid (HL.out w1 hb1 a2 c2 gs gs.length (HGS.out w1 hb1) rfl)
      rw [HLG.out] at HL1
      have B1 := hid hb1
      clear hb1
      go_wp2_with fail
      refine HL1.out.mono ?_
      rintro e w2 ⟨rfl, hb2⟩
      have B2 := hid (below_of B1.out B1.out.size hb2)
      have hz0 := HB0.out.size
      clear hb2
      go_wp2_with fail
      go_loopw [9] (fun iv wr => ∃ k : Nat, k ≤ gs.length ∧ iv = .int .i64 k ∧ firstOk (okN xs gs most) k = none ∧ Below W0.heap.size W0 wr) (fun iv _ => gs.length - (intOf iv).toNat)
      case atStart => exact ⟨0, Nat.zero_le _, rfl, rfl, B2.out⟩
      case round =>
        obtain ⟨k, hk, rfl, hfk, hbl⟩ := hrel
        have HB := hid hbl
        have HF := hid hfk
        clear hfk
        by_cases hlt : k < gs.length
        · have hd : decide ((k : Int) < (gs.length : Int)) = true := by rw [decide_eq_true_iff]; omega
          have hki : (k : Int) < (gs.length : Int) := by omega
          have hsl := HGS.out wr hbl
          obtain ⟨b2, o2, rfl, hb2', hc2⟩ := en1_cells hsl (by omega)
          have e1 : gs[k]? = some gs[k] := List.getElem?_eq_getElem hlt
          have HE1 := hid e1
          have f0 := hc2 k _ e1
          obtain ⟨V, hV⟩ : ∃ V, V = wr := ⟨_, rfl⟩
          subst hV
          have HSL := hid hsl
          have hll := less_len hlt
          have hw1 : IntKind.i64.wrap ((k : Int) + 1) = (k : Int) + 1 := IntWalk.i64_in _ (by omega)
          have hk1 : (k : Int) + 1 ≤ (gs.length : Int) := by omega
          have hkc : (k : Int) ≤ (c2 : Int) := by omega
          have hk0 : (0 : Int) ≤ (k : Int) + 1 := by omega
          have htn : ((k : Int) + 1).toNat = k + 1 := by omega
          have HT1 := hid (show ((gs.take k).flatMap en1).length = k * 1 by rw [flatMap_len en1_length, List.length_take]; omega)
          have HT2 := hid (show ((gs.drop (k + 1)).flatMap en1).length = (gs.length - (k + 1)) * 1 by rw [flatMap_len en1_length, List.length_drop])
          have HLL := hid hll
          have HBA := hid (fun o => ((Below.refl V.heap.size V).alloc (Nat.le_refl _) o).drew)
          have HGK := hid (show gs.getD k 0 = gs[k] by rw [List.getD_eq_getElem?_getD, e1]; rfl)
          generalize gs[k] = g at *
          clear hbl hc2 hll e1
          by_cases hcc : c2 = k + 1
          · subst hcc
            have hkc1 : (k : Int) ≤ (k : Int) + 1 := by omega
            go_upto_region 9 with fail
            refine wp_region_held_drew (S := fun _ => True) (by kernel_rfl) (trivial) (fun hH0 => ?_)
            refine wpAnyH_take (i := 1) (oi := ⟨some 27, _, _, _, _, _⟩) (v := ?_) rfl (by kernel_rfl) (by kernel_rfl) (by kernel_rfl) (fun _ _ _ h => h) (Or.inl ⟨by kernel_rfl, ?_⟩) hH0 ?_
            rotate_left 1
            · (intro W hSw; (try dsimp only at hSw); go_simp; try with_reducible rfl)
            try simp only [Act.put, List.setIfInBounds_toArray, List.set_cons_zero, List.set_cons_succ]
            refine wpAnyH_take (i := 2) (oi := ⟨some 28, _, _, _, _, _⟩) (v := ?_) rfl (by kernel_rfl) (by kernel_rfl) (by kernel_rfl) (fun _ _ _ h => h) (Or.inl ⟨by kernel_rfl, ?_⟩) hH0 ?_
            rotate_left 1
            · (intro W hSw; (try dsimp only at hSw); go_simp; try with_reducible rfl)
            try simp only [Act.put, List.setIfInBounds_toArray, List.set_cons_zero, List.set_cons_succ]
            refine wpAnyH_take (i := 3) (oi := ⟨some 29, _, _, _, _, _⟩) (v := ?_) rfl (by kernel_rfl) (by kernel_rfl) (by kernel_rfl) (fun _ _ _ h => h) (Or.inl ⟨by kernel_rfl, ?_⟩) hH0 ?_
            rotate_left 1
            · (intro W hSw; (try dsimp only at hSw); go_simp; try with_reducible rfl)
            try simp only [Act.put, List.setIfInBounds_toArray, List.set_cons_zero, List.set_cons_succ]
            refine wpAnyH_take (i := 5) (oi := ⟨some 31, _, _, _, _, _⟩) (v := ?_) rfl (by kernel_rfl) (by kernel_rfl) (by kernel_rfl) (fun _ _ _ h => h) (Or.inl ⟨by kernel_rfl, ?_⟩) hH0 ?_
            rotate_left 1
            · (intro W hSw; (try dsimp only at hSw); go_simp; try with_reducible rfl)
            try simp only [Act.put, List.setIfInBounds_toArray, List.set_cons_zero, List.set_cons_succ]
            refine wpAnyH_take (i := 6) (oi := ⟨some 32, _, _, _, _, _⟩) (v := ?_) rfl (by kernel_rfl) (by kernel_rfl) (by kernel_rfl) (fun _ _ _ h => h) (Or.inl ⟨by kernel_rfl, ?_⟩) hH0 ?_
            rotate_left 1
            · (intro W hSw; (try dsimp only at hSw); go_simp; try with_reducible rfl)
            try simp only [Act.put, List.setIfInBounds_toArray, List.set_cons_zero, List.set_cons_succ]
            refine wpAnyH_take (i := 7) (oi := ⟨some 33, _, _, _, _, _⟩) (v := ?_) rfl (by kernel_rfl) (by kernel_rfl) (by kernel_rfl) (fun _ _ _ h => h) (Or.inl ⟨by kernel_rfl, ?_⟩) hH0 ?_
            rotate_left 1
            · (intro W hSw; (try dsimp only at hSw); go_simp; try with_reducible rfl)
            try simp only [Act.put, List.setIfInBounds_toArray, List.set_cons_zero, List.set_cons_succ]
            refine wpAnyH_take (i := 8) (oi := ⟨some 34, _, _, _, _, _⟩) (v := ?_) rfl (by kernel_rfl) (by kernel_rfl) (by kernel_rfl) (fun _ _ _ h => h) (Or.inl ⟨by kernel_rfl, ?_⟩) hH0 ?_
            rotate_left 1
            · (intro W hSw; (try dsimp only at hSw); go_simp; try with_reducible rfl)
            try simp only [Act.put, List.setIfInBounds_toArray, List.set_cons_zero, List.set_cons_succ]
            refine wpAnyH_ready (rs := [0]) (by kernel_rfl) (by simp) ?_
            refine AllReadyH.cons rfl (fun K hK => ?_) AllReadyH.nil
            go_simp
            refine hK.out _ _ (trivial) (fun hH1 => ?_)
            clear hK K
            try simp only [Act.put, List.setIfInBounds_toArray, List.set_cons_zero, List.set_cons_succ]
            refine wpAnyH_ready (rs := [4]) (by kernel_rfl) (by simp) ?_
            refine AllReadyH.cons rfl (fun K hK => ?_) AllReadyH.nil
            refine step_app_many (by rfl) _ _ 29 (by rfl) V.heap.size 2 (.int .i64 0) 1 8 Tryz.underlying29 (by kernel_rfl) rfl (by decide) (.slice (some ⟨V.heap.size, 0, none⟩) 0 0) 0 [] (by rfl) ((World.ownsRow_lit V #[] 0 (Nat.le_refl _) (by simp [maxLen]) (by simp)).drew) (some ⟨b2, o2, none⟩) k (k + 1) ((gs.take k).flatMap en1) (by rfl) HT1.out (fun hk0 => ((take_en1 (HSL.out.below (HBA.out _)) k).flat en1_length) (by rw [List.length_take]; omega)) (oneCell_flat (fun p u hu => by simp [en1] at hu; subst hu; rfl) _) (fun _ => .inr (by simp)) (by omega) (by decide) (by simp) ?_
            intro v5 w5 own5 hg5
            have hb5 : Below V.heap.size V w5 := (HBA.out _).grown hg5 (by simp) (by simp [Value.ownBlock])
            have hz5 := hb5.size
            refine hK.out _ _ (trivial) (fun hH2 => ?_)
            clear hK K
            try simp only [Act.put, List.setIfInBounds_toArray, List.set_cons_zero, List.set_cons_succ]
            refine wpAnyH_ready (rs := [9]) (by kernel_rfl) (by simp) ?_
            refine AllReadyH.cons rfl (fun K hK => ?_) AllReadyH.nil
            refine step_app_many (by rfl) _ _ 29 (by rfl) V.heap.size 2 (.int .i64 0) 1 8 Tryz.underlying29 (by kernel_rfl) rfl (by decide) v5 (0 + k) ([] ++ (gs.take k).flatMap en1) (by rfl) own5 (some ⟨b2, o2, none⟩) (0) (0) ([]) (by rfl) (rfl) (fun hk0 => absurd hk0 (by omega)) ((fun u hu => by simp at hu)) (fun _ => .inr (by simp)) (by omega) (by decide) hz5 ?_
            intro v6 w6 own6 hg6
            have hb6 : Below V.heap.size V w6 := hb5.grown hg6 hz5 (fun g hg => (own5.lt g hg).1)
            refine hK.out _ _ (trivial) (fun hH3 => ?_)
            clear hK K
            try simp only [Act.put, List.setIfInBounds_toArray, List.set_cons_zero, List.set_cons_succ]
            refine wpAnyH_take (i := 10) (oi := ⟨some 10, _, _, _, _, _⟩) (v := ?_) rfl (by kernel_rfl) (by kernel_rfl) (by kernel_rfl) (fun _ _ _ h => h) (Or.inl ⟨by kernel_rfl, ?_⟩) hH3 ?_
            rotate_left 1
            · (intro W hSw; (try dsimp only at hSw); go_simp; try with_reducible rfl)
            try simp only [Act.put, List.setIfInBounds_toArray, List.set_cons_zero, List.set_cons_succ]
            refine wpAnyH_done (by kernel_rfl) ?_ _
            have HB6V := hid hb6
            have HB6 := hid (below_of HB.out HB.out.size hb6)
            obtain ⟨A6, c6, rfl⟩ := own_slice own6
            have hlg : lessG gs k = gs.take k := by unfold lessG; rw [List.drop_of_length_le (by omega), List.append_nil]
            have hn6 : 0 + k + 0 = (lessG gs k).length := by have := HLL.out; omega
            rw [List.nil_append, List.append_nil, ← hlg, hn6] at own6
            have HL6 := hid (fun m (hm : m = (lessG gs k).length) => HL.out w6 HB6.out A6 c6 (lessG gs k) m (en1_row own6) hm)
            have HOK := hid (show okN xs gs most k = decide (leftG xs (lessG gs k) ≤ most) from rfl)
            clear own5 own6 hg5 hg6 hb5 hb6 hz5
            generalize leftG xs (lessG gs k) = L2 at *
            by_cases hL2 : L2 ≤ most
            · have eL2 : decide (L2 ≤ most) = true := decide_eq_true hL2
              have HFA := hid (firstOk_at HF.out (HOK.out.trans eL2) gs.length hlt)
              rw [HFA.out] at G
              go_wp2_with fail
              refine (HL6.out _ (by have := HLL.out; omega)).mono ?_
              rintro e w7 ⟨rfl, hb7⟩
              have B7 := hid (below_of HB6.out HB6.out.size hb7)
              have f7 := cell_on hb7 (cell_on HB6V.out f0)
              clear hb7
              go_wp2_with fail
              refine bodyPost_ret (v := .tuple #[.int .i64 g, .int .i64 0]) (by simp [results, Tryz.results27, go_sem]) rfl ?_
              exact ⟨by rw [G.out]; show _ = Ending.returned (.tuple #[.int .i64 (gs.getD k 0), .int .i64 0]); rw [HGK.out], below_of HB0.out hz0 B7.out⟩
            · have eL2 : decide (L2 ≤ most) = false := decide_eq_false hL2
              have HFN := hid (firstOk_next HF.out (HOK.out.trans eL2))
              go_wp2_with fail
              refine (HL6.out _ (by have := HLL.out; omega)).mono ?_
              rintro e w7 ⟨rfl, hb7⟩
              have B7 := hid (below_of HB6.out HB6.out.size hb7)
              clear hb7
              go_wp2_with fail
              exact ⟨⟨k + 1, by omega, by go_num, HFN.out, B7.out⟩, by simp [intOf]; omega⟩
          · have hcn : ¬ c2 = k + 1 := hcc
            go_upto_region 9 with fail
            refine wp_region_held_drew (S := fun _ => True) (by kernel_rfl) (trivial) (fun hH0 => ?_)
            refine wpAnyH_take (i := 1) (oi := ⟨some 27, _, _, _, _, _⟩) (v := ?_) rfl (by kernel_rfl) (by kernel_rfl) (by kernel_rfl) (fun _ _ _ h => h) (Or.inl ⟨by kernel_rfl, ?_⟩) hH0 ?_
            rotate_left 1
            · (intro W hSw; (try dsimp only at hSw); go_simp; try with_reducible rfl)
            try simp only [Act.put, List.setIfInBounds_toArray, List.set_cons_zero, List.set_cons_succ]
            refine wpAnyH_take (i := 2) (oi := ⟨some 28, _, _, _, _, _⟩) (v := ?_) rfl (by kernel_rfl) (by kernel_rfl) (by kernel_rfl) (fun _ _ _ h => h) (Or.inl ⟨by kernel_rfl, ?_⟩) hH0 ?_
            rotate_left 1
            · (intro W hSw; (try dsimp only at hSw); go_simp; try with_reducible rfl)
            try simp only [Act.put, List.setIfInBounds_toArray, List.set_cons_zero, List.set_cons_succ]
            refine wpAnyH_take (i := 3) (oi := ⟨some 29, _, _, _, _, _⟩) (v := ?_) rfl (by kernel_rfl) (by kernel_rfl) (by kernel_rfl) (fun _ _ _ h => h) (Or.inl ⟨by kernel_rfl, ?_⟩) hH0 ?_
            rotate_left 1
            · (intro W hSw; (try dsimp only at hSw); go_simp; try with_reducible rfl)
            try simp only [Act.put, List.setIfInBounds_toArray, List.set_cons_zero, List.set_cons_succ]
            refine wpAnyH_take (i := 5) (oi := ⟨some 31, _, _, _, _, _⟩) (v := ?_) rfl (by kernel_rfl) (by kernel_rfl) (by kernel_rfl) (fun _ _ _ h => h) (Or.inl ⟨by kernel_rfl, ?_⟩) hH0 ?_
            rotate_left 1
            · (intro W hSw; (try dsimp only at hSw); go_simp; try with_reducible rfl)
            try simp only [Act.put, List.setIfInBounds_toArray, List.set_cons_zero, List.set_cons_succ]
            refine wpAnyH_take (i := 6) (oi := ⟨some 32, _, _, _, _, _⟩) (v := ?_) rfl (by kernel_rfl) (by kernel_rfl) (by kernel_rfl) (fun _ _ _ h => h) (Or.inl ⟨by kernel_rfl, ?_⟩) hH0 ?_
            rotate_left 1
            · (intro W hSw; (try dsimp only at hSw); go_simp; try with_reducible rfl)
            try simp only [Act.put, List.setIfInBounds_toArray, List.set_cons_zero, List.set_cons_succ]
            refine wpAnyH_take (i := 7) (oi := ⟨some 33, _, _, _, _, _⟩) (v := ?_) rfl (by kernel_rfl) (by kernel_rfl) (by kernel_rfl) (fun _ _ _ h => h) (Or.inl ⟨by kernel_rfl, ?_⟩) hH0 ?_
            rotate_left 1
            · (intro W hSw; (try dsimp only at hSw); go_simp; try with_reducible rfl)
            try simp only [Act.put, List.setIfInBounds_toArray, List.set_cons_zero, List.set_cons_succ]
            refine wpAnyH_take (i := 8) (oi := ⟨some 34, _, _, _, _, _⟩) (v := ?_) rfl (by kernel_rfl) (by kernel_rfl) (by kernel_rfl) (fun _ _ _ h => h) (Or.inl ⟨by kernel_rfl, ?_⟩) hH0 ?_
            rotate_left 1
            · (intro W hSw; (try dsimp only at hSw); go_simp; try with_reducible rfl)
            try simp only [Act.put, List.setIfInBounds_toArray, List.set_cons_zero, List.set_cons_succ]
            refine wpAnyH_ready (rs := [0]) (by kernel_rfl) (by simp) ?_
            refine AllReadyH.cons rfl (fun K hK => ?_) AllReadyH.nil
            go_simp
            refine hK.out _ _ (trivial) (fun hH1 => ?_)
            clear hK K
            try simp only [Act.put, List.setIfInBounds_toArray, List.set_cons_zero, List.set_cons_succ]
            refine wpAnyH_ready (rs := [4]) (by kernel_rfl) (by simp) ?_
            refine AllReadyH.cons rfl (fun K hK => ?_) AllReadyH.nil
            refine step_app_many (by rfl) _ _ 29 (by rfl) V.heap.size 2 (.int .i64 0) 1 8 Tryz.underlying29 (by kernel_rfl) rfl (by decide) (.slice (some ⟨V.heap.size, 0, none⟩) 0 0) 0 [] (by rfl) ((World.ownsRow_lit V #[] 0 (Nat.le_refl _) (by simp [maxLen]) (by simp)).drew) (some ⟨b2, o2, none⟩) k (c2) ((gs.take k).flatMap en1) (by rfl) HT1.out (fun hk0 => ((take_en1 (HSL.out.below (HBA.out _)) k).flat en1_length) (by rw [List.length_take]; omega)) (oneCell_flat (fun p u hu => by simp [en1] at hu; subst hu; rfl) _) (fun _ => .inr (by simp)) (by omega) (by decide) (by simp) ?_
            intro v5 w5 own5 hg5
            have hb5 : Below V.heap.size V w5 := (HBA.out _).grown hg5 (by simp) (by simp [Value.ownBlock])
            have hz5 := hb5.size
            refine hK.out _ _ (trivial) (fun hH2 => ?_)
            clear hK K
            try simp only [Act.put, List.setIfInBounds_toArray, List.set_cons_zero, List.set_cons_succ]
            refine wpAnyH_ready (rs := [9]) (by kernel_rfl) (by simp) ?_
            refine AllReadyH.cons rfl (fun K hK => ?_) AllReadyH.nil
            refine step_app_many (by rfl) _ _ 29 (by rfl) V.heap.size 2 (.int .i64 0) 1 8 Tryz.underlying29 (by kernel_rfl) rfl (by decide) v5 (0 + k) ([] ++ (gs.take k).flatMap en1) (by rfl) own5 (some ⟨b2, o2 + (k + 1), none⟩) (gs.length - (k + 1)) (c2 - (k + 1)) ((gs.drop (k + 1)).flatMap en1) (by rfl) (HT2.out) (fun hk0 => ((drop_en1 (HSL.out.below hb5) (k + 1)).flat en1_length) (by rw [List.length_drop]; omega)) (oneCell_flat (fun p u hu => by simp [en1] at hu; subst hu; rfl) _) (fun _ => .inr (by simp)) (by omega) (by decide) hz5 ?_
            intro v6 w6 own6 hg6
            have hb6 : Below V.heap.size V w6 := hb5.grown hg6 hz5 (fun g hg => (own5.lt g hg).1)
            refine hK.out _ _ (trivial) (fun hH3 => ?_)
            clear hK K
            try simp only [Act.put, List.setIfInBounds_toArray, List.set_cons_zero, List.set_cons_succ]
            refine wpAnyH_take (i := 10) (oi := ⟨some 10, _, _, _, _, _⟩) (v := ?_) rfl (by kernel_rfl) (by kernel_rfl) (by kernel_rfl) (fun _ _ _ h => h) (Or.inl ⟨by kernel_rfl, ?_⟩) hH3 ?_
            rotate_left 1
            · (intro W hSw; (try dsimp only at hSw); go_simp; try with_reducible rfl)
            try simp only [Act.put, List.setIfInBounds_toArray, List.set_cons_zero, List.set_cons_succ]
            refine wpAnyH_done (by kernel_rfl) ?_ _
            have HB6V := hid hb6
            have HB6 := hid (below_of HB.out HB.out.size hb6)
            obtain ⟨A6, c6, rfl⟩ := own_slice own6
            rw [List.nil_append, ← List.flatMap_append, ← HLL.out] at own6
            have HL6 := hid (fun m (hm : m = (lessG gs k).length) => HL.out w6 HB6.out A6 c6 (lessG gs k) m (en1_row own6) hm)
            have HOK := hid (show okN xs gs most k = decide (leftG xs (lessG gs k) ≤ most) from rfl)
            clear own5 own6 hg5 hg6 hb5 hb6 hz5
            generalize leftG xs (lessG gs k) = L2 at *
            by_cases hL2 : L2 ≤ most
            · have eL2 : decide (L2 ≤ most) = true := decide_eq_true hL2
              have HFA := hid (firstOk_at HF.out (HOK.out.trans eL2) gs.length hlt)
              rw [HFA.out] at G
              go_wp2_with fail
              refine (HL6.out _ (by have := HLL.out; omega)).mono ?_
              rintro e w7 ⟨rfl, hb7⟩
              have B7 := hid (below_of HB6.out HB6.out.size hb7)
              have f7 := cell_on hb7 (cell_on HB6V.out f0)
              clear hb7
              go_wp2_with fail
              refine bodyPost_ret (v := .tuple #[.int .i64 g, .int .i64 0]) (by simp [results, Tryz.results27, go_sem]) rfl ?_
              exact ⟨by rw [G.out]; show _ = Ending.returned (.tuple #[.int .i64 (gs.getD k 0), .int .i64 0]); rw [HGK.out], below_of HB0.out hz0 B7.out⟩
            · have eL2 : decide (L2 ≤ most) = false := decide_eq_false hL2
              have HFN := hid (firstOk_next HF.out (HOK.out.trans eL2))
              go_wp2_with fail
              refine (HL6.out _ (by have := HLL.out; omega)).mono ?_
              rintro e w7 ⟨rfl, hb7⟩
              have B7 := hid (below_of HB6.out HB6.out.size hb7)
              clear hb7
              go_wp2_with fail
              exact ⟨⟨k + 1, by omega, by go_num, HFN.out, B7.out⟩, by simp [intOf]; omega⟩
        · obtain rfl : k = gs.length := by omega
          have hd : decide ((gs.length : Int) < (gs.length : Int)) = false := by rw [decide_eq_false_iff_not]; omega
          rw [HF.out] at G
          clear hbl
          go_wp2_with fail
          refine bodyPost_ret (v := .tuple #[.int .i64 0, .int .i64 6]) (by simp [results, Tryz.results27, go_sem]) rfl ?_
          exact ⟨by rw [G.out]; rfl, below_of HB0.out hz0 HB.out⟩
    · rw [if_neg hLm] at G
      have eL : decide (L > most) = true := by rw [decide_eq_true_iff]; omega
      go_enter Tryz.func27, Tryz.ntmps27
      go_wp2_with fail
      rw [← hW0]
      clear hW0
      refine HGi.out.mono ?_
      rintro e w1 ⟨rfl, hb1⟩
      have HL1 := hid (HL.out w1 hb1 a2 c2 gs gs.length (HGS.out w1 hb1) rfl)
      rw [HLG.out] at HL1
      have B1 := hid hb1
      clear hb1
      go_wp2_with fail
      refine HL1.out.mono ?_
      rintro e w2 ⟨rfl, hb2⟩
      have B2 := hid (below_of HB0.out HB0.out.size (below_of B1.out B1.out.size hb2))
      clear hb2
      go_wp2_with fail
      refine bodyPost_ret (v := .tuple #[.int .i64 0, .int .i64 4]) (by simp [results, Tryz.results27, go_sem]) rfl ?_
      exact ⟨by rw [G.out], B2.out⟩
  · have G := hid (show NeedlessGapG wi hi xs gs most = (0, v) by unfold NeedlessGapG; rw [hv, if_neg hv0])
    have hne : (v != 0) = true := by simpa using hv0
    clear B0 hbd h h2 hv hv0
    go_enter Tryz.func27, Tryz.ntmps27
    go_wp2_with fail
    rw [← hW0]
    clear hW0
    refine HGi.out.mono ?_
    rintro e w1 ⟨rfl, hb1⟩
    have B1 := hid (below_of HB0.out HB0.out.size hb1)
    clear hb1
    go_wp2_with fail
    refine bodyPost_ret (v := .tuple #[.int .i64 0, .int .i64 v]) (by simp [results, Tryz.results27, go_sem]) rfl ?_
    exact ⟨by rw [G.out], B1.out⟩
set_option maxRecDepth 100000 in
set_option maxHeartbeats 2000000 in
theorem NeedlessGap_I (w : World) (wi hi : Int) (wl : -128 ≤ wi) (wu : wi ≤ 127) (hl : -128 ≤ hi) (hu : hi ≤ 127) (a : Option Addr) (c : Nat) (xs : List Pc) (h : SlA Pc.enc 5 w a xs) (hac : a = none → c = 0) (ok : ∀ p ∈ xs, p.Ok) (hs : xs.length ≤ 1048576) (a2 : Option Addr) (c2 : Nat) (gs : List Int) (h2 : SlA en1 1 w a2 gs) (hac2 : a2 = none → c2 = 0) (hcap : gs.length ≤ c2) (ok2 : ∀ p ∈ gs, -9223372036854775808 ≤ p ∧ p ≤ 9223372036854775807) (hs2 : gs.length ≤ 1048576) (most : Int) (ml : -9223372036854775808 ≤ most) (mu : most ≤ 9223372036854775807) :
    Calls Tryz.prog 22 #[.agg #[.int .i8 wi, .int .i8 hi, .slice a xs.length c], .slice a2 gs.length c2, .int .i64 most] w fun e w' => e = .returned (.tuple #[.int .i64 (NeedlessGapG wi hi xs gs most).1, .int .i64 (NeedlessGapG wi hi xs gs most).2]) ∧ Below w.heap.size w w' := by
  obtain ⟨W0, hW0⟩ : ∃ W, W = w.alloc (.cells #[.int .i8 wi, .int .i8 hi, .slice a xs.length c] 27) := ⟨_, rfl⟩
  have B0 : Below w.heap.size w W0 := by rw [hW0]; exact (Below.refl _ _).alloc (Nat.le_refl _) _
  have hbd : BdA W0 w.heap.size wi hi a xs.length c := by rw [hW0]; exact bd_box _ _ _ _ _ _ _
  have d0 : W0.cell? ⟨w.heap.size, 0, none⟩ = some (.int .i8 wi) := hbd.c0
  have d1 : W0.cell? ⟨w.heap.size, 1, none⟩ = some (.int .i8 hi) := hbd.c1
  have d2 : W0.cell? ⟨w.heap.size, 2, none⟩ = some (.slice a xs.length c) := hbd.c2
  have HCG := hid (CheckGaps_I W0 wi hi wl wu hl hu a c xs (h.below B0) hac ok hs a2 c2 gs (h2.below B0) hac2 ok2 hs2 most ml mu)
  have HB0 := hid B0
  obtain ⟨v, hv⟩ : ∃ v, gapsG wi hi xs gs = v := ⟨_, rfl⟩
  by_cases hv0 : v = 0
  · have G := hid (show NeedlessGapG wi hi xs gs most = if leftG xs gs ≤ most then needR gs (firstOk (okN xs gs most) gs.length) else (0, 4) by unfold NeedlessGapG; rw [hv, if_pos hv0])
    have GC : CheckGapsG wi hi xs gs most = (decide (leftG xs gs ≤ most), 0) := by unfold CheckGapsG; rw [hv, if_pos hv0]
    rw [GC] at HCG
    subst hv0
    obtain ⟨hB, hn, _⟩ := gaps_zero hv
    have HWI := hid (fun W (hb : Below W0.heap.size W0 W) A3 c3 l m (hl : SlA en1 1 W A3 l) (hm : m = l.length) => without_len_I w.heap.size wi hi a c xs A3 c3 l W hs (hbd.below hb hbd.lt) ((h.below B0).below hb) hl m hm)
    have HGS := hid (fun W (hb : Below W0.heap.size W0 W) => (h2.below B0).below hb)
    have HKB := hid (fun l => hB.part (keep_sub l xs 0))
    obtain ⟨L, hLg⟩ : ∃ L, leftG xs gs = L := ⟨_, rfl⟩
    rw [hLg] at G HCG
    clear B0 hbd h h2 hv hLg GC
    by_cases hLm : L ≤ most
    · rw [if_pos hLm] at G
      rw [decide_eq_true hLm] at HCG
      go_enter Tryz.func22, Tryz.ntmps22
      go_upto_region 1 with fail
      rw [← hW0]
      clear hW0
      go_wp2_with fail
      refine HCG.out.mono ?_
      rintro e w1 ⟨rfl, hb1⟩
      have B2 := hid hb1
      have hz0 := HB0.out.size
      clear hb1 d0 d1 d2
      go_wp2_with fail
      go_loopw [28] (fun iv wr => ∃ k : Nat, k ≤ gs.length ∧ iv = .int .i64 k ∧ firstOk (okN xs gs most) k = none ∧ Below W0.heap.size W0 wr) (fun iv _ => gs.length - (intOf iv).toNat)
      case atStart => exact ⟨0, Nat.zero_le _, rfl, rfl, B2.out⟩
      case round =>
        obtain ⟨k, hk, rfl, hfk, hbl⟩ := hrel
        have HB := hid hbl
        have HF := hid hfk
        clear hfk
        by_cases hlt : k < gs.length
        · have hd : decide ((k : Int) < (gs.length : Int)) = true := by rw [decide_eq_true_iff]; omega
          have hki : (k : Int) < (gs.length : Int) := by omega
          have hsl := HGS.out wr hbl
          obtain ⟨b2, o2, rfl, hb2', hc2⟩ := en1_cells hsl (by omega)
          have e1 : gs[k]? = some gs[k] := List.getElem?_eq_getElem hlt
          have HE1 := hid e1
          have f0 := hc2 k _ e1
          obtain ⟨V, hV⟩ : ∃ V, V = wr := ⟨_, rfl⟩
          subst hV
          have HSL := hid hsl
          have hll := less_len hlt
          have hw1 : IntKind.i64.wrap ((k : Int) + 1) = (k : Int) + 1 := IntWalk.i64_in _ (by omega)
          have hk1 : (k : Int) + 1 ≤ (gs.length : Int) := by omega
          have hkc : (k : Int) ≤ (c2 : Int) := by omega
          have hk0 : (0 : Int) ≤ (k : Int) + 1 := by omega
          have htn : ((k : Int) + 1).toNat = k + 1 := by omega
          have HBA := hid (fun o => ((Below.refl V.heap.size V).alloc (Nat.le_refl _) o).drew)
          have HGK := hid (show gs.getD k 0 = gs[k] by rw [List.getD_eq_getElem?_getD, e1]; rfl)
          have HTK := hid (show (gs.take k).length = k by rw [List.length_take]; omega)
          have HDL := hid (show (gs.drop (k + 1)).length = gs.length - (k + 1) from List.length_drop)
          generalize gs[k] = g at *
          clear hbl hc2 hll e1
          by_cases hcc : c2 = k + 1
          · subst hcc
            have hkc1 : (k : Int) ≤ (k : Int) + 1 := by omega
            have hcat : gs.take k ++ [] = lessG gs k := by unfold lessG; rw [List.drop_of_length_le (by omega)]
            have hcc1 := concat_I V.heap.size (gs.take k) [] (some ⟨b2, o2, none⟩) (some ⟨b2, o2, none⟩) (k + 1) 0 ((V.alloc (.cells #[.slice (some ⟨b2, o2, none⟩) k (k + 1), .slice (some ⟨b2, o2, none⟩) 0 0] 29)).drew) (take_en1 (HSL.out.below (HBA.out _)) k) (empty_en1 rfl) (.inr (by simp)) (.inr (by simp)) (by rw [HTK.out]; simp [go_sem]) (by simp [go_sem]) (by rw [HTK.out]; simp; omega)
            rw [hcat] at hcc1
            have HCc := hid hcc1
            clear hcat hcc1
            go_upto_region 9 with fail
            have f9 := fun W (hb : Below V.heap.size V W) => cell_on hb f0
            have HF9 := hid f9
            clear f9
            have HOK := hid (show okN xs gs most k = decide (costW (keepL (lessG gs k) 0 xs) ≤ most) from rfl)
            refine wp_region_held_drew (S := fun _ => True) (by kernel_rfl) (trivial) (fun hH0 => ?_)
            refine wpAnyH_take (i := 0) (oi := ⟨some 33, _, _, _, _, _⟩) (v := ?_) rfl (by kernel_rfl) (by kernel_rfl) (by kernel_rfl) (fun _ _ _ h => h) (Or.inl ⟨by kernel_rfl, ?_⟩) hH0 ?_
            rotate_left 1
            · (intro W hSw; (try dsimp only at hSw); go_simp; try with_reducible rfl)
            try simp only [Act.put, List.setIfInBounds_toArray, List.set_cons_zero, List.set_cons_succ]
            refine wpAnyH_take (i := 1) (oi := ⟨some 34, _, _, _, _, _⟩) (v := ?_) rfl (by kernel_rfl) (by kernel_rfl) (by kernel_rfl) (fun _ _ _ h => h) (Or.inl ⟨by kernel_rfl, ?_⟩) hH0 ?_
            rotate_left 1
            · (intro W hSw; (try dsimp only at hSw); go_simp; try with_reducible rfl)
            try simp only [Act.put, List.setIfInBounds_toArray, List.set_cons_zero, List.set_cons_succ]
            refine wpAnyH_take (i := 2) (oi := ⟨some 35, _, _, _, _, _⟩) (v := ?_) rfl (by kernel_rfl) (by kernel_rfl) (by kernel_rfl) (fun _ _ _ h => h) (Or.inl ⟨by kernel_rfl, ?_⟩) hH0 ?_
            rotate_left 1
            · (intro W hSw; (try dsimp only at hSw); go_simp; try with_reducible rfl)
            try simp only [Act.put, List.setIfInBounds_toArray, List.set_cons_zero, List.set_cons_succ]
            refine wpAnyH_take (i := 3) (oi := ⟨some 36, _, _, _, _, _⟩) (v := ?_) rfl (by kernel_rfl) (by kernel_rfl) (by kernel_rfl) (fun _ _ _ h => h) (Or.inl ⟨by kernel_rfl, ?_⟩) hH0 ?_
            rotate_left 1
            · (intro W hSw; (try dsimp only at hSw); go_simp; try with_reducible rfl)
            try simp only [Act.put, List.setIfInBounds_toArray, List.set_cons_zero, List.set_cons_succ]
            refine wpAnyH_take (i := 4) (oi := ⟨some 37, _, _, _, _, _⟩) (v := ?_) rfl (by kernel_rfl) (by kernel_rfl) (by kernel_rfl) (fun _ _ _ h => h) (Or.inl ⟨by kernel_rfl, ?_⟩) hH0 ?_
            rotate_left 1
            · (intro W hSw; (try dsimp only at hSw); go_simp; try with_reducible rfl)
            try simp only [Act.put, List.setIfInBounds_toArray, List.set_cons_zero, List.set_cons_succ]
            refine wpAnyH_take (i := 5) (oi := ⟨some 38, _, _, _, _, _⟩) (v := ?_) rfl (by kernel_rfl) (by kernel_rfl) (by kernel_rfl) (fun _ _ _ h => h) (Or.inl ⟨by kernel_rfl, ?_⟩) hH0 ?_
            rotate_left 1
            · (intro W hSw; (try dsimp only at hSw); go_simp; try with_reducible rfl)
            try simp only [Act.put, List.setIfInBounds_toArray, List.set_cons_zero, List.set_cons_succ]
            refine wpAnyH_take (i := 6) (oi := ⟨some 39, _, _, _, _, _⟩) (v := ?_) rfl (by kernel_rfl) (by kernel_rfl) (by kernel_rfl) (fun _ _ _ h => h) (Or.inl ⟨by kernel_rfl, ?_⟩) hH0 ?_
            rotate_left 1
            · (intro W hSw; (try dsimp only at hSw); go_simp; try with_reducible rfl)
            try simp only [Act.put, List.setIfInBounds_toArray, List.set_cons_zero, List.set_cons_succ]
            refine wpAnyH_take (i := 11) (oi := ⟨some 44, _, _, _, _, _⟩) (v := ?_) rfl (by kernel_rfl) (by kernel_rfl) (by kernel_rfl) (fun _ _ _ h => h) (Or.inl ⟨by kernel_rfl, ?_⟩) hH0 ?_
            rotate_left 1
            · (intro W hSw; (try dsimp only at hSw); go_simp; try with_reducible rfl)
            try simp only [Act.put, List.setIfInBounds_toArray, List.set_cons_zero, List.set_cons_succ]
            refine wpAnyH_ready (rs := [7]) (by kernel_rfl) (by simp) ?_
            refine AllReadyH.cons rfl (fun K hK => ?_) AllReadyH.nil
            go_simp
            refine hK.out _ _ (trivial) (fun hH1 => ?_)
            clear hK K
            try simp only [Act.put, List.setIfInBounds_toArray, List.set_cons_zero, List.set_cons_succ]
            refine wpAnyH_ready (rs := [8]) (by kernel_rfl) (by simp) ?_
            refine AllReadyH.cons rfl (fun K hK => ?_) AllReadyH.nil
            go_simp
            refine HCc.out.mono ?_
            rintro e w5 ⟨A5, c5, rfl, hb5, own5⟩
            have b5 := below_of (HBA.out _) (HBA.out _).size hb5
            have B5 := hid (below_of HB.out HB.out.size b5)
            have HW5 := hid (HWI.out w5 B5.out A5 c5 (lessG gs k) (lessG gs k).length (en1_row own5) rfl)
            have HV5 := hid b5
            clear own5 hb5 b5
            refine hK.out _ _ (trivial) (fun hH2 => ?_)
            clear hK K
            try simp only [Act.put, List.setIfInBounds_toArray, List.set_cons_zero, List.set_cons_succ]
            refine wpAnyH_ready (rs := [9]) (by kernel_rfl) (by simp) ?_
            refine AllReadyH.cons rfl (fun K hK => ?_) AllReadyH.nil
            go_simp
            refine HW5.out.mono ?_
            rintro e w6 ⟨A6, c6, rfl, hb6, own6⟩
            have B6 := hid (below_of B5.out B5.out.size hb6)
            have HV6 := hid (below_of HV5.out HV5.out.size hb6)
            have HWo := hid (worstOf_I wi hi A6 c6 _ w6 (HKB.out (lessG gs k)) (SlA.of_own Pc.enc_length own6))
            clear own6 hb6
            refine hK.out _ _ (trivial) (fun hH3 => ?_)
            clear hK K
            try simp only [Act.put, List.setIfInBounds_toArray, List.set_cons_zero, List.set_cons_succ]
            refine wpAnyH_ready (rs := [10]) (by kernel_rfl) (by simp) ?_
            refine AllReadyH.cons rfl (fun K hK => ?_) AllReadyH.nil
            go_simp
            refine HWo.out.mono ?_
            rintro e w7 ⟨rfl, hb7⟩
            have B7 := hid (below_of B6.out B6.out.size hb7)
            have HV7 := hid (below_of HV6.out HV6.out.size hb7)
            clear hb7
            refine hK.out _ _ (trivial) (fun hH4 => ?_)
            clear hK K
            try simp only [Act.put, List.setIfInBounds_toArray, List.set_cons_zero, List.set_cons_succ]
            refine wpAnyH_take (i := 12) (oi := ⟨some 45, _, _, _, _, _⟩) (v := ?_) rfl (by kernel_rfl) (by kernel_rfl) (by kernel_rfl) (fun _ _ _ h => h) (Or.inl ⟨by kernel_rfl, ?_⟩) hH4 ?_
            rotate_left 1
            · (intro W hSw; (try dsimp only at hSw); go_simp; try with_reducible rfl)
            try simp only [Act.put, List.setIfInBounds_toArray, List.set_cons_zero, List.set_cons_succ]
            refine wpAnyH_done (by kernel_rfl) ?_ _
            obtain ⟨L2, hL2e⟩ : ∃ L2, costW (keepL (lessG gs k) 0 xs) = L2 := ⟨_, rfl⟩
            rw [hL2e] at HOK ⊢
            clear hL2e
            by_cases hL2 : L2 ≤ most
            · have eL2 : decide (L2 ≤ most) = true := decide_eq_true hL2
              have HFA := hid (firstOk_at HF.out (HOK.out.trans eL2) gs.length hlt)
              rw [HFA.out] at G
              go_wp2_with fail
              refine bodyPost_ret (v := .tuple #[.int .i64 g, .int .i64 0]) (by simp [results, Tryz.results22, go_sem]) rfl ?_
              exact ⟨by rw [G.out]; show _ = Ending.returned (.tuple #[.int .i64 (gs.getD k 0), .int .i64 0]); rw [HGK.out], below_of HB0.out hz0 B7.out⟩
            · have eL2 : decide (L2 ≤ most) = false := decide_eq_false hL2
              have HFN := hid (firstOk_next HF.out (HOK.out.trans eL2))
              go_wp2_with fail
              exact ⟨⟨k + 1, by omega, by go_num, HFN.out, B7.out⟩, by simp [intOf]; omega⟩
          · have hcn : ¬ c2 = k + 1 := hcc
            have hcc1 := (concat_I V.heap.size (gs.take k) (gs.drop (k + 1)) (some ⟨b2, o2, none⟩) (some ⟨b2, o2 + (k + 1), none⟩) c2 (c2 - (k + 1)) ((V.alloc (.cells #[.slice (some ⟨b2, o2, none⟩) k c2, .slice (some ⟨b2, o2 + (k + 1), none⟩) (gs.length - (k + 1)) (c2 - (k + 1))] 29)).drew) (take_en1 (HSL.out.below (HBA.out _)) k) (drop_en1 (HSL.out.below (HBA.out _)) (k + 1)) (.inr (by simp)) (.inr (by simp)) (by rw [HTK.out]; simp [go_sem]) (by rw [HDL.out]; simp [go_sem]) (by rw [HTK.out, HDL.out]; omega))
            rw [show gs.take k ++ gs.drop (k + 1) = lessG gs k from rfl] at hcc1
            have HCc := hid hcc1
            clear hcc1
            go_upto_region 9 with fail
            have f9 := fun W (hb : Below V.heap.size V W) => cell_on hb f0
            have HF9 := hid f9
            clear f9
            have HOK := hid (show okN xs gs most k = decide (costW (keepL (lessG gs k) 0 xs) ≤ most) from rfl)
            refine wp_region_held_drew (S := fun _ => True) (by kernel_rfl) (trivial) (fun hH0 => ?_)
            refine wpAnyH_take (i := 0) (oi := ⟨some 33, _, _, _, _, _⟩) (v := ?_) rfl (by kernel_rfl) (by kernel_rfl) (by kernel_rfl) (fun _ _ _ h => h) (Or.inl ⟨by kernel_rfl, ?_⟩) hH0 ?_
            rotate_left 1
            · (intro W hSw; (try dsimp only at hSw); go_simp; try with_reducible rfl)
            try simp only [Act.put, List.setIfInBounds_toArray, List.set_cons_zero, List.set_cons_succ]
            refine wpAnyH_take (i := 1) (oi := ⟨some 34, _, _, _, _, _⟩) (v := ?_) rfl (by kernel_rfl) (by kernel_rfl) (by kernel_rfl) (fun _ _ _ h => h) (Or.inl ⟨by kernel_rfl, ?_⟩) hH0 ?_
            rotate_left 1
            · (intro W hSw; (try dsimp only at hSw); go_simp; try with_reducible rfl)
            try simp only [Act.put, List.setIfInBounds_toArray, List.set_cons_zero, List.set_cons_succ]
            refine wpAnyH_take (i := 2) (oi := ⟨some 35, _, _, _, _, _⟩) (v := ?_) rfl (by kernel_rfl) (by kernel_rfl) (by kernel_rfl) (fun _ _ _ h => h) (Or.inl ⟨by kernel_rfl, ?_⟩) hH0 ?_
            rotate_left 1
            · (intro W hSw; (try dsimp only at hSw); go_simp; try with_reducible rfl)
            try simp only [Act.put, List.setIfInBounds_toArray, List.set_cons_zero, List.set_cons_succ]
            refine wpAnyH_take (i := 3) (oi := ⟨some 36, _, _, _, _, _⟩) (v := ?_) rfl (by kernel_rfl) (by kernel_rfl) (by kernel_rfl) (fun _ _ _ h => h) (Or.inl ⟨by kernel_rfl, ?_⟩) hH0 ?_
            rotate_left 1
            · (intro W hSw; (try dsimp only at hSw); go_simp; try with_reducible rfl)
            try simp only [Act.put, List.setIfInBounds_toArray, List.set_cons_zero, List.set_cons_succ]
            refine wpAnyH_take (i := 4) (oi := ⟨some 37, _, _, _, _, _⟩) (v := ?_) rfl (by kernel_rfl) (by kernel_rfl) (by kernel_rfl) (fun _ _ _ h => h) (Or.inl ⟨by kernel_rfl, ?_⟩) hH0 ?_
            rotate_left 1
            · (intro W hSw; (try dsimp only at hSw); go_simp; try with_reducible rfl)
            try simp only [Act.put, List.setIfInBounds_toArray, List.set_cons_zero, List.set_cons_succ]
            refine wpAnyH_take (i := 5) (oi := ⟨some 38, _, _, _, _, _⟩) (v := ?_) rfl (by kernel_rfl) (by kernel_rfl) (by kernel_rfl) (fun _ _ _ h => h) (Or.inl ⟨by kernel_rfl, ?_⟩) hH0 ?_
            rotate_left 1
            · (intro W hSw; (try dsimp only at hSw); go_simp; try with_reducible rfl)
            try simp only [Act.put, List.setIfInBounds_toArray, List.set_cons_zero, List.set_cons_succ]
            refine wpAnyH_take (i := 6) (oi := ⟨some 39, _, _, _, _, _⟩) (v := ?_) rfl (by kernel_rfl) (by kernel_rfl) (by kernel_rfl) (fun _ _ _ h => h) (Or.inl ⟨by kernel_rfl, ?_⟩) hH0 ?_
            rotate_left 1
            · (intro W hSw; (try dsimp only at hSw); go_simp; try with_reducible rfl)
            try simp only [Act.put, List.setIfInBounds_toArray, List.set_cons_zero, List.set_cons_succ]
            refine wpAnyH_take (i := 11) (oi := ⟨some 44, _, _, _, _, _⟩) (v := ?_) rfl (by kernel_rfl) (by kernel_rfl) (by kernel_rfl) (fun _ _ _ h => h) (Or.inl ⟨by kernel_rfl, ?_⟩) hH0 ?_
            rotate_left 1
            · (intro W hSw; (try dsimp only at hSw); go_simp; try with_reducible rfl)
            try simp only [Act.put, List.setIfInBounds_toArray, List.set_cons_zero, List.set_cons_succ]
            refine wpAnyH_ready (rs := [7]) (by kernel_rfl) (by simp) ?_
            refine AllReadyH.cons rfl (fun K hK => ?_) AllReadyH.nil
            go_simp
            refine hK.out _ _ (trivial) (fun hH1 => ?_)
            clear hK K
            try simp only [Act.put, List.setIfInBounds_toArray, List.set_cons_zero, List.set_cons_succ]
            refine wpAnyH_ready (rs := [8]) (by kernel_rfl) (by simp) ?_
            refine AllReadyH.cons rfl (fun K hK => ?_) AllReadyH.nil
            go_simp
            refine HCc.out.mono ?_
            rintro e w5 ⟨A5, c5, rfl, hb5, own5⟩
            have b5 := below_of (HBA.out _) (HBA.out _).size hb5
            have B5 := hid (below_of HB.out HB.out.size b5)
            have HW5 := hid (HWI.out w5 B5.out A5 c5 (lessG gs k) (lessG gs k).length (en1_row own5) rfl)
            have HV5 := hid b5
            clear own5 hb5 b5
            refine hK.out _ _ (trivial) (fun hH2 => ?_)
            clear hK K
            try simp only [Act.put, List.setIfInBounds_toArray, List.set_cons_zero, List.set_cons_succ]
            refine wpAnyH_ready (rs := [9]) (by kernel_rfl) (by simp) ?_
            refine AllReadyH.cons rfl (fun K hK => ?_) AllReadyH.nil
            go_simp
            refine HW5.out.mono ?_
            rintro e w6 ⟨A6, c6, rfl, hb6, own6⟩
            have B6 := hid (below_of B5.out B5.out.size hb6)
            have HV6 := hid (below_of HV5.out HV5.out.size hb6)
            have HWo := hid (worstOf_I wi hi A6 c6 _ w6 (HKB.out (lessG gs k)) (SlA.of_own Pc.enc_length own6))
            clear own6 hb6
            refine hK.out _ _ (trivial) (fun hH3 => ?_)
            clear hK K
            try simp only [Act.put, List.setIfInBounds_toArray, List.set_cons_zero, List.set_cons_succ]
            refine wpAnyH_ready (rs := [10]) (by kernel_rfl) (by simp) ?_
            refine AllReadyH.cons rfl (fun K hK => ?_) AllReadyH.nil
            go_simp
            refine HWo.out.mono ?_
            rintro e w7 ⟨rfl, hb7⟩
            have B7 := hid (below_of B6.out B6.out.size hb7)
            have HV7 := hid (below_of HV6.out HV6.out.size hb7)
            clear hb7
            refine hK.out _ _ (trivial) (fun hH4 => ?_)
            clear hK K
            try simp only [Act.put, List.setIfInBounds_toArray, List.set_cons_zero, List.set_cons_succ]
            refine wpAnyH_take (i := 12) (oi := ⟨some 45, _, _, _, _, _⟩) (v := ?_) rfl (by kernel_rfl) (by kernel_rfl) (by kernel_rfl) (fun _ _ _ h => h) (Or.inl ⟨by kernel_rfl, ?_⟩) hH4 ?_
            rotate_left 1
            · (intro W hSw; (try dsimp only at hSw); go_simp; try with_reducible rfl)
            try simp only [Act.put, List.setIfInBounds_toArray, List.set_cons_zero, List.set_cons_succ]
            refine wpAnyH_done (by kernel_rfl) ?_ _
            obtain ⟨L2, hL2e⟩ : ∃ L2, costW (keepL (lessG gs k) 0 xs) = L2 := ⟨_, rfl⟩
            rw [hL2e] at HOK ⊢
            clear hL2e
            by_cases hL2 : L2 ≤ most
            · have eL2 : decide (L2 ≤ most) = true := decide_eq_true hL2
              have HFA := hid (firstOk_at HF.out (HOK.out.trans eL2) gs.length hlt)
              rw [HFA.out] at G
              go_wp2_with fail
              refine bodyPost_ret (v := .tuple #[.int .i64 g, .int .i64 0]) (by simp [results, Tryz.results22, go_sem]) rfl ?_
              exact ⟨by rw [G.out]; show _ = Ending.returned (.tuple #[.int .i64 (gs.getD k 0), .int .i64 0]); rw [HGK.out], below_of HB0.out hz0 B7.out⟩
            · have eL2 : decide (L2 ≤ most) = false := decide_eq_false hL2
              have HFN := hid (firstOk_next HF.out (HOK.out.trans eL2))
              go_wp2_with fail
              exact ⟨⟨k + 1, by omega, by go_num, HFN.out, B7.out⟩, by simp [intOf]; omega⟩
        · obtain rfl : k = gs.length := by omega
          have hd : decide ((gs.length : Int) < (gs.length : Int)) = false := by rw [decide_eq_false_iff_not]; omega
          rw [HF.out] at G
          clear hbl
          go_wp2_with fail
          refine bodyPost_ret (v := .tuple #[.int .i64 0, .int .i64 6]) (by simp [results, Tryz.results22, go_sem]) rfl ?_
          exact ⟨by rw [G.out]; rfl, below_of HB0.out hz0 HB.out⟩
    · rw [if_neg hLm] at G
      rw [decide_eq_false hLm] at HCG
      go_enter Tryz.func22, Tryz.ntmps22
      go_upto_region 1 with fail
      rw [← hW0]
      clear hW0
      go_wp2_with fail
      refine HCG.out.mono ?_
      rintro e w1 ⟨rfl, hb1⟩
      have B2 := hid (below_of HB0.out HB0.out.size hb1)
      clear hb1
      go_wp2_with fail
      refine bodyPost_ret (v := .tuple #[.int .i64 0, .int .i64 4]) (by simp [results, Tryz.results22, go_sem]) rfl ?_
      exact ⟨by rw [G.out], B2.out⟩
  · have G := hid (show NeedlessGapG wi hi xs gs most = (0, v) by unfold NeedlessGapG; rw [hv, if_neg hv0])
    have GC : CheckGapsG wi hi xs gs most = (false, v) := by unfold CheckGapsG; rw [hv, if_neg hv0]
    rw [GC] at HCG
    have hne : (v != 0) = true := by simpa using hv0
    clear B0 hbd h h2 hv hv0 GC
    go_enter Tryz.func22, Tryz.ntmps22
    go_upto_region 1 with fail
    rw [← hW0]
    clear hW0
    go_wp2_with fail
    refine HCG.out.mono ?_
    rintro e w1 ⟨rfl, hb1⟩
    have B1 := hid (below_of HB0.out HB0.out.size hb1)
    clear hb1
    go_wp2_with fail
    refine bodyPost_ret (v := .tuple #[.int .i64 0, .int .i64 v]) (by simp [results, Tryz.results22, go_sem]) rfl ?_
    exact ⟨by rw [G.out], B1.out⟩
end Go.Proofs.YthhfndifcdiomaaGreat
