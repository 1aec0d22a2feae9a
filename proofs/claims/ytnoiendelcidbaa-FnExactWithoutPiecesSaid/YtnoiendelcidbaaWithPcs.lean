/-
  WithoutPieces, both the program's and the reference's.
  Conditions: the fields are in their kinds' ranges.
-/
import Derived.Test.YtnoiendelcidbaaWithoutI
namespace Go.Proofs.Ytnoiendelcidbaa
open Go.RowKit
set_option linter.unusedSimpArgs false
set_option linter.unusedVariables false

def WithoutPiecesG (wi hi : Int) (xs : List Pc) (gs : List Int) : (Int × Int × List Pc) × Int :=
  if gapsG wi hi xs gs = 0 then ((wi, hi, keepL gs 0 xs), 0) else ((0, 0, []), gapsG wi hi xs gs)
theorem WithoutPieces_len (wi hi : Int) (xs : List Pc) (gs : List Int) (h : xs.length ≤ 1048576) (_ : gs.length ≤ 1048576) : (WithoutPiecesG wi hi xs gs).1.2.2.length ≤ 1048576 := by
  unfold WithoutPiecesG
  split
  · have := keepL_len gs xs 0
    dsimp only
    omega
  · simp
set_option maxHeartbeats 400000 in
theorem WithoutPieces_S (w : World) (wi hi : Int) (wl : -128 ≤ wi) (wu : wi ≤ 127) (hl : -128 ≤ hi) (hu : hi ≤ 127) (a : Option Addr) (c : Nat) (xs : List Pc) (h : SlA Pc.enc 5 w a xs) (_ : a = none → c = 0) (ok : ∀ p ∈ xs, p.Ok) (hs : xs.length ≤ 1048576) (a2 : Option Addr) (c2 : Nat) (gs : List Int) (h2 : SlA en1 1 w a2 gs) (_ : a2 = none → c2 = 0) (ok2 : ∀ p ∈ gs, -9223372036854775808 ≤ p ∧ p ≤ 9223372036854775807) (_ : gs.length ≤ 1048576) :
    Calls Try.prog 41 #[.agg #[.int .i8 wi, .int .i8 hi, .slice a xs.length c], .slice a2 gs.length c2] w (ResB w (WithoutPiecesG wi hi xs gs).1.1 (WithoutPiecesG wi hi xs gs).1.2.1 (WithoutPiecesG wi hi xs gs).1.2.2 (WithoutPiecesG wi hi xs gs).2) := by
  obtain ⟨W0, hW0⟩ : ∃ W, W = (w.alloc (Obj.cells #[.int .i8 wi, .int .i8 hi, .slice a xs.length c] 63)).alloc (Obj.cells #[.int .i8 0, .int .i8 0, .slice none 0 0] 63) := ⟨_, rfl⟩
  have B0 : Below w.heap.size w W0 := by rw [hW0]; exact ((Below.refl _ _).alloc (Nat.le_refl _) _).alloc (by simp) _
  have hbx : BdA W0 w.heap.size wi hi a xs.length c := by rw [hW0]; exact ⟨by simp; omega, by simp [go_sem], by simp [go_sem], by simp [go_sem]⟩
  have hr0 : BoxB W0 (w.heap.size + 1) 0 0 none 0 0 := by rw [hW0]; exact ⟨⟨by simp, by simp [go_sem], by simp [go_sem], by simp [go_sem]⟩, by simp [go_sem], by simp [go_sem], by simp [go_sem]⟩
  have hz0 : W0.heap.size = w.heap.size + 1 + 1 := by rw [hW0]; simp
  have Hs := hid (given_S w.heap.size wi hi a c xs a2 c2 gs W0 ⟨wl, wu, hl, hu⟩ hs hbx (h.below B0) ok (h2.below B0) ok2)
  have Hw := hid (fun W (hB : Below W0.heap.size W0 W) => without_S w.heap.size wi hi a c xs a2 c2 gs W hs (hbx.below hB hbx.lt) (h.below (B0.trans (hB.mono (by omega)))) (h2.below (B0.trans (hB.mono (by omega)))))
  have HR := hid hr0
  have HB := hid B0
  have HZ := hid hz0
  have HX := hid hbx
  obtain ⟨⟨x9, x0, x1, x2⟩⟩ := And.intro hbx trivial
  obtain ⟨v, hv⟩ : ∃ v, gapsG wi hi xs gs = v := ⟨_, rfl⟩
  rw [hv] at Hs
  by_cases hv0 : v = 0
  · have G : WithoutPiecesG wi hi xs gs = ((wi, hi, keepL gs 0 xs), 0) := by unfold WithoutPiecesG; rw [hv, if_pos hv0]
    rw [G]
    subst hv0
    clear hv G
    go_enter Try.func41, Try.ntmps41
    go_wp2_with fail
    try rw [← hW0]
    clear hW0 hr0 B0 hbx
    refine Hs.out.mono ?_
    rintro e w1 ⟨rfl, hb1⟩
    go_wp2_with fail
    refine (Hw.out _ hb1).mono ?_
    rintro e w2 ⟨A, cA, rfl, hb2, own⟩
    have B2 := hid (HB.out.trans ((hb1.trans (hb2.mono hb1.size)).mono (by have := HZ.out; omega)))
    have hs1 := hb1.size
    have hs2 := hb2.size
    have hzz := HZ.out
    obtain ⟨⟨r9, r0, r1, r2⟩, z0, z1, z2⟩ := HR.out.below (hb1.trans (hb2.mono hb1.size)) HR.out.bd.lt
    have Ho := hid own
    clear own hb1 hb2
    go_wp2_with fail
    refine bodyPost_ret (v := .tuple #[.agg #[.int .i8 wi, .int .i8 hi, .slice A (keepL gs 0 xs).length cA], .int .i64 0]) (by simp [results, Try.results41, go_sem, r0, r1, r2, r9]) rfl ⟨A, cA, by simp, ?_, ?_⟩
    · repeat (refine Below.setCell ?_ (by simp; try omega) _)
      exact B2.out
    · have own := Ho.out
      repeat (refine World.ownsRow.kept (row := some (w.heap.size + 1)) ?_ (setCell_grown _ _ _ _) (.inr (fun e => by have := (own.lt _ e).1; omega)))
      exact own_low own (by omega)
  · have G : WithoutPiecesG wi hi xs gs = ((0, 0, []), v) := by unfold WithoutPiecesG; rw [hv, if_neg hv0]
    rw [G]
    have hne : (v != 0) = true := by simpa using hv0
    clear hv G hv0
    go_enter Try.func41, Try.ntmps41
    go_wp2_with fail
    try rw [← hW0]
    clear hW0 hr0 B0 hbx
    refine Hs.out.mono ?_
    rintro e w1 ⟨rfl, hb1⟩
    have B1 := hid (HB.out.trans (hb1.mono (by have := HZ.out; omega)))
    have hs1 := hb1.size
    have hzz := HZ.out
    obtain ⟨⟨r9, r0, r1, r2⟩, z0, z1, z2⟩ := HR.out.below hb1 HR.out.bd.lt
    clear hb1
    go_wp2_with fail
    refine bodyPost_ret (v := .tuple #[.agg #[.int .i8 0, .int .i8 0, .slice none 0 0], .int .i64 v]) (by simp [results, Try.results41, go_sem, r0, r1, r2, r9]) rfl ⟨none, 0, by simp, ?_, World.ownsRow_nil _ _ _ _⟩
    repeat (refine Below.setCell ?_ (by simp; try omega) _)
    exact B1.out
set_option maxHeartbeats 400000 in
theorem WithoutPieces_I (w : World) (wi hi : Int) (wl : -128 ≤ wi) (wu : wi ≤ 127) (hl : -128 ≤ hi) (hu : hi ≤ 127) (a : Option Addr) (c : Nat) (xs : List Pc) (h : SlA Pc.enc 5 w a xs) (_ : a = none → c = 0) (ok : ∀ p ∈ xs, p.Ok) (hs : xs.length ≤ 1048576) (a2 : Option Addr) (c2 : Nat) (gs : List Int) (h2 : SlA en1 1 w a2 gs) (_ : a2 = none → c2 = 0) (ok2 : ∀ p ∈ gs, -9223372036854775808 ≤ p ∧ p ≤ 9223372036854775807) (_ : gs.length ≤ 1048576) :
    Calls Try.prog 43 #[.agg #[.int .i8 wi, .int .i8 hi, .slice a xs.length c], .slice a2 gs.length c2] w (ResB w (WithoutPiecesG wi hi xs gs).1.1 (WithoutPiecesG wi hi xs gs).1.2.1 (WithoutPiecesG wi hi xs gs).1.2.2 (WithoutPiecesG wi hi xs gs).2) := by
  obtain ⟨W0, hW0⟩ : ∃ W, W = (w.alloc (Obj.cells #[.int .i8 wi, .int .i8 hi, .slice a xs.length c] 63)).alloc (Obj.cells #[.int .i8 0, .int .i8 0, .slice none 0 0] 63) := ⟨_, rfl⟩
  have B0 : Below w.heap.size w W0 := by rw [hW0]; exact ((Below.refl _ _).alloc (Nat.le_refl _) _).alloc (by simp) _
  have hbx : BdA W0 w.heap.size wi hi a xs.length c := by rw [hW0]; exact ⟨by simp; omega, by simp [go_sem], by simp [go_sem], by simp [go_sem]⟩
  have hr0 : BoxB W0 (w.heap.size + 1) 0 0 none 0 0 := by rw [hW0]; exact ⟨⟨by simp, by simp [go_sem], by simp [go_sem], by simp [go_sem]⟩, by simp [go_sem], by simp [go_sem], by simp [go_sem]⟩
  have hz0 : W0.heap.size = w.heap.size + 1 + 1 := by rw [hW0]; simp
  have Hs := hid (gapsOk_I wi hi a c xs a2 c2 gs W0 ⟨wl, wu, hl, hu⟩ hs (h.below B0) ok (h2.below B0) ok2)
  have Hw := hid (fun W (hB : Below W0.heap.size W0 W) => without_I w.heap.size wi hi a c xs a2 c2 gs W hs (hbx.below hB hbx.lt) (h.below (B0.trans (hB.mono (by omega)))) (h2.below (B0.trans (hB.mono (by omega)))))
  have HR := hid hr0
  have HB := hid B0
  have HZ := hid hz0
  have HX := hid hbx
  obtain ⟨⟨x9, x0, x1, x2⟩⟩ := And.intro hbx trivial
  obtain ⟨v, hv⟩ : ∃ v, gapsG wi hi xs gs = v := ⟨_, rfl⟩
  rw [hv] at Hs
  by_cases hv0 : v = 0
  · have G : WithoutPiecesG wi hi xs gs = ((wi, hi, keepL gs 0 xs), 0) := by unfold WithoutPiecesG; rw [hv, if_pos hv0]
    rw [G]
    subst hv0
    clear hv G
    go_enter Try.func43, Try.ntmps43
    go_wp2_with fail
    try rw [← hW0]
    clear hW0 hr0 B0 hbx
    refine Hs.out.mono ?_
    rintro e w1 ⟨rfl, hb1⟩
    go_wp2_with fail
    refine (Hw.out _ hb1).mono ?_
    rintro e w2 ⟨A, cA, rfl, hb2, own⟩
    have B2 := hid (HB.out.trans ((hb1.trans (hb2.mono hb1.size)).mono (by have := HZ.out; omega)))
    have hs1 := hb1.size
    have hs2 := hb2.size
    have hzz := HZ.out
    obtain ⟨⟨r9, r0, r1, r2⟩, z0, z1, z2⟩ := HR.out.below (hb1.trans (hb2.mono hb1.size)) HR.out.bd.lt
    have Ho := hid own
    clear own hb1 hb2
    go_wp2_with fail
    refine bodyPost_ret (v := .tuple #[.agg #[.int .i8 wi, .int .i8 hi, .slice A (keepL gs 0 xs).length cA], .int .i64 0]) (by simp [results, Try.results43, go_sem, r0, r1, r2, r9]) rfl ⟨A, cA, by simp, ?_, ?_⟩
    · repeat (refine Below.setCell ?_ (by simp; try omega) _)
      exact B2.out
    · have own := Ho.out
      repeat (refine World.ownsRow.kept (row := some (w.heap.size + 1)) ?_ (setCell_grown _ _ _ _) (.inr (fun e => by have := (own.lt _ e).1; omega)))
      exact own_low own (by omega)
  · have G : WithoutPiecesG wi hi xs gs = ((0, 0, []), v) := by unfold WithoutPiecesG; rw [hv, if_neg hv0]
    rw [G]
    have hne : (v != 0) = true := by simpa using hv0
    clear hv G hv0
    go_enter Try.func43, Try.ntmps43
    go_wp2_with fail
    try rw [← hW0]
    clear hW0 hr0 B0 hbx
    refine Hs.out.mono ?_
    rintro e w1 ⟨rfl, hb1⟩
    have B1 := hid (HB.out.trans (hb1.mono (by have := HZ.out; omega)))
    have hs1 := hb1.size
    have hzz := HZ.out
    obtain ⟨⟨r9, r0, r1, r2⟩, z0, z1, z2⟩ := HR.out.below hb1 HR.out.bd.lt
    clear hb1
    go_wp2_with fail
    refine bodyPost_ret (v := .tuple #[.agg #[.int .i8 0, .int .i8 0, .slice none 0 0], .int .i64 v]) (by simp [results, Try.results43, go_sem, r0, r1, r2, r9]) rfl ⟨none, 0, by simp, ?_, World.ownsRow_nil _ _ _ _⟩
    repeat (refine Below.setCell ?_ (by simp; try omega) _)
    exact B1.out
end Go.Proofs.Ytnoiendelcidbaa
