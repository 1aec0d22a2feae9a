/-
  WithoutPieces: the program's board without some pieces.
  Conditions: the fields are in their kinds' ranges.
-/
import Derived.Test.YthhfndifcdiomaaGreatWithout
namespace Go.Proofs.YthhfndifcdiomaaGreat
open Go.RowKit
set_option linter.unusedSimpArgs false
set_option linter.unusedVariables false

theorem with_I (b : Nat) (wi hi : Int) (a : Option Addr) (n c : Nat) (A2 : Option Addr) (n2 c2 : Nat) (w : World) (hb : BdA w b wi hi a n c) :
    Calls Tryz.prog 67 #[.pointer (some ⟨b, 0, none⟩), .slice A2 n2 c2] w fun e w' => e = .returned (.agg #[.int .i8 wi, .int .i8 hi, .slice A2 n2 c2]) ∧ Below w.heap.size w w' := by
  obtain ⟨g9, g0, g1, g2⟩ := hb
  have HB : ∀ o (n : Nat), Below w.heap.size w ((w.alloc o).drewN n) := fun o n => below_drewN ((Below.refl _ _).alloc (Nat.le_refl _) o) n
  have HB1 := hid HB
  clear HB
  go_enter Tryz.func67, Tryz.ntmps67
  go_wp2_with fail
  go_region
  go_wp2_with fail
  refine bodyPost_ret (v := .agg #[.int .i8 wi, .int .i8 hi, .slice A2 n2 c2]) (by simp [results, Tryz.results67, go_sem]) rfl ⟨rfl, ?_⟩
  first | exact HB1.out _ 1 | exact ((Below.refl _ _).alloc (Nat.le_refl _) _).drew | exact (((Below.refl _ _).alloc (Nat.le_refl _) _).drew.setCell (by simp) _)
set_option maxRecDepth 100000 in
set_option maxHeartbeats 400000 in
theorem without_I (b : Nat) (wi hi : Int) (a : Option Addr) (c : Nat) (xs : List Pc) (a2 : Option Addr) (c2 : Nat) (gs : List Int) (w : World) (hs : xs.length ≤ 1048576) (hb : BdA w b wi hi a xs.length c) (h : SlA Pc.enc 5 w a xs) (h2 : SlA en1 1 w a2 gs) :
    Calls Tryz.prog 46 #[.pointer (some ⟨b, 0, none⟩), .slice a2 gs.length c2] w (ResBd w wi hi (keepL gs 0 xs)) := by
  have B0 : ∀ o, Below w.heap.size w (w.alloc o) := fun o => (Below.refl _ _).alloc (Nat.le_refl _) _
  have Hw := hid (with_I b wi hi a xs.length c none 0 0 (w.alloc (.cells #[.int .i8 0, .int .i8 0, .slice none 0 0] 27)) (hb.below (B0 _) hb.lt))
  have HR0 := hid (show BoxB (w.alloc (.cells #[.int .i8 0, .int .i8 0, .slice none 0 0] 27)) w.heap.size 0 0 none 0 0 from ⟨⟨by simp, by simp [go_sem], by simp [go_sem], by simp [go_sem]⟩, by simp [go_sem], by simp [go_sem], by simp [go_sem]⟩)
  have HB0 := hid (B0 (.cells #[.int .i8 0, .int .i8 0, .slice none 0 0] 27))
  have hbd := hb
  obtain ⟨g9, g0, g1, g2⟩ := hb
  clear B0
  go_enter Tryz.func46, Tryz.ntmps46
  go_wp2_with fail
  refine Hw.out.mono ?_
  rintro e w1 ⟨rfl, hb1⟩
  have hz1 := hb1.size
  simp only [World.size_alloc] at hz1
  have HB1 := hid (below_of HB0.out (by simp) hb1)
  have HR1 := hid (HR0.out.below hb1 (by simp))
  have k2 : w1.cell? ⟨b, 2, none⟩ = some (.slice a xs.length c) := (HB1.out.cell (p := ⟨b, _, none⟩) g9).trans g2
  have hbw : b < w1.heap.size := by omega
  have hbn : b ≠ w1.heap.size := by omega
  have k2a : ∀ o, (w1.alloc o).cell? ⟨b, 2, none⟩ = some (.slice a xs.length c) := fun o => cell_on ((Below.refl _ _).alloc (Nat.le_refl _) o) k2
  have HQ1 := hid (show BoxB (w1.alloc (.cells #[.int .i8 wi, .int .i8 hi, .slice none 0 0] 27)) w1.heap.size wi hi none 0 0 from ⟨⟨by simp, by simp [go_sem], by simp [go_sem], by simp [go_sem]⟩, by simp [go_sem], by simp [go_sem], by simp [go_sem]⟩)
  have HB2 := hid (HB1.out.alloc (by omega) (.cells #[.int .i8 wi, .int .i8 hi, .slice none 0 0] 27))
  have HR2 := hid (HR1.out.below ((Below.refl w1.heap.size w1).alloc (Nat.le_refl _) (.cells #[.int .i8 wi, .int .i8 hi, .slice none 0 0] 27)) HR1.out.bd.lt)
  clear hb1
  go_wp2_with fail
  go_loopw [15] (fun i wr => ∃ (k : Nat) (A : Option Addr) (c1 : Nat), k ≤ xs.length ∧ i = .int .i64 k ∧ Below w.heap.size w wr ∧ BoxB wr w.heap.size 0 0 none 0 0 ∧ BoxB wr w1.heap.size wi hi A (keepL gs 0 (xs.take k)).length c1 ∧ wr.ownsRow (w1.heap.size + 1) 76 5 (.slice A (keepL gs 0 (xs.take k)).length c1) (keepL gs 0 (xs.take k)).length ((keepL gs 0 (xs.take k)).flatMap Pc.enc) ∧ w1.heap.size + 1 ≤ wr.heap.size) (fun i _ => xs.length - (intOf i).toNat)
  case atStart => exact ⟨0, none, 0, Nat.zero_le _, rfl, HB2.out, HR2.out, HQ1.out, World.ownsRow_nil _ _ _ _, by simp⟩
  case round =>
    obtain ⟨k, A, c1, hk, rfl, hbl, hr, hq, own, hsz⟩ := hrel
    by_cases hlt : k < xs.length
    · obtain ⟨b1, o1, rfl, hb1, hc1⟩ := h.cells (by omega)
      have e1 : xs[k]? = some xs[k] := List.getElem?_eq_getElem hlt
      have Hp := hid e1
      clear e1
      generalize xs[k] = p at *
      have HK := hid (keepL_step (gs := gs) Hp.out)
      have hz := hbl.size
      have Hh := hid (fun W (hB : Below w.heap.size w W) => contains_en1_I a2 c2 gs (k : Int) W (h2.below hB))
      obtain ⟨d1, hd1⟩ : ∃ d1 : Bool, gs.any (isN (k : Int)) = d1 := ⟨_, rfl⟩
      rw [hd1] at Hh HK
      obtain ⟨N, hN⟩ : ∃ N, (keepL gs 0 (xs.take k)).length = N := ⟨_, rfl⟩
      obtain ⟨L, hL⟩ : ∃ L, (keepL gs 0 (xs.take k)).flatMap Pc.enc = L := ⟨_, rfl⟩
      have hNl : N ≤ k := by
        have := keepL_len gs (xs.take k) 0
        rw [hN, List.length_take] at this
        omega
      rw [hN] at hq
      rw [hN, hL] at own
      have HNL := hid (show (keepL gs 0 (xs.take k)).length = N ∧ (keepL gs 0 (xs.take k)).flatMap Pc.enc = L from ⟨hN, hL⟩)
      have Ho := hid own
      have HQ := hid hq
      have HR := hid hr
      have HB := hid hbl
      have f0 : wr.cell? ⟨b1, o1 + k * 5, none⟩ = some (.int .i8 p.x) := (hbl.cell (p := ⟨b1, _, none⟩) hb1).trans (hc1 k _ Hp.out 0 _ rfl)
      have f1 : wr.cell? ⟨b1, o1 + k * 5 + 1, none⟩ = some (.int .i8 p.y) := (hbl.cell (p := ⟨b1, _, none⟩) hb1).trans (hc1 k _ Hp.out 1 _ rfl)
      have f2 : wr.cell? ⟨b1, o1 + k * 5 + 2, none⟩ = some (.int .i8 p.k) := (hbl.cell (p := ⟨b1, _, none⟩) hb1).trans (hc1 k _ Hp.out 2 _ rfl)
      have f3 : wr.cell? ⟨b1, o1 + k * 5 + 3, none⟩ = some (.int .i8 p.t) := (hbl.cell (p := ⟨b1, _, none⟩) hb1).trans (hc1 k _ Hp.out 3 _ rfl)
      have f4 : wr.cell? ⟨b1, o1 + k * 5 + 4, none⟩ = some (.int .i8 p.d) := (hbl.cell (p := ⟨b1, _, none⟩) hb1).trans (hc1 k _ Hp.out 4 _ rfl)
      clear hN hL own hq hr hbl hd1 hc1
      go_wp2_with fail
      refine (Hh.out _ (HB.out.alloc hz _)).mono ?_
      rintro e w2 ⟨rfl, hb9⟩
      obtain ⟨hc9, hf9⟩ := bcell hb9
      have hz9 := hb9.size
      simp only [World.size_alloc] at hz9
      have s1 : wr.heap.size < w2.heap.size := by omega
      have B9 := below_then ((Below.refl wr.heap.size wr).alloc (Nat.le_refl _) _) hb9
      have HB9 := hid (below_of HB.out hz B9)
      have HQ9 := hid (HQ.out.below B9 HQ.out.bd.lt)
      have HR9 := hid (HR.out.below B9 HR.out.bd.lt)
      have Ho9 := hid (own_step Ho.out B9)
      have q2 := HQ9.out.bd.c2
      clear hb9 B9
      cases d1
      · go_wp2_with (at_builtin; refine app_one (w := w2) 25 76 (.agg Pc.z.enc.toArray) 5 5 Tryz.underlying25 (by kernel_rfl) rfl (by decide) (w1.heap.size + 1) _ N _ Ho9.out ?c1 (by decide) ?c2 [.int .i8 p.x, .int .i8 p.y, .int .i8 p.k, .int .i8 p.t, .int .i8 p.d] _ _ rfl rfl rfl _ rfl ?c3 rfl (by intro u hu; simp at hu; rcases hu with rfl | rfl | rfl | rfl | rfl <;> rfl) ?_)
        case c1 => omega
        case c2 => omega
        case c3 => rfl
        intro A3 c3 w3 own3 hb3 hg3 hat3
        have hz3 := hb3.size
        have y2 := (HQ9.out.below hb3 (by omega)).bd.c2
        have y3 := (HQ9.out.below hb3 (by omega)).z2
        have hk1 := HK.out
        simp only [Bool.false_eq_true, if_false] at hk1
        have hl1 : (keepL gs 0 (xs.take k) ++ [p]).length = N + 1 := by rw [List.length_append, HNL.out.1]; rfl
        have hf1 : (keepL gs 0 (xs.take k) ++ [p]).flatMap Pc.enc = L ++ [.int .i8 p.x, .int .i8 p.y, .int .i8 p.k, .int .i8 p.t, .int .i8 p.d] := by rw [List.flatMap_append, HNL.out.2]; simp [Pc.enc]
        have BF := hid ((HB9.out.trans (hb3.mono (by omega))).setCell (p := ⟨w1.heap.size, 2, none⟩) (by simp; omega) (.slice A3 (N + 1) c3))
        have QF := hid ((HQ9.out.below hb3 (by omega)).store A3 (N + 1) c3)
        have RF := hid ((HR9.out.below hb3 (by omega)).kept (setCell_grown w3 w1.heap.size 2 (.slice A3 (N + 1) c3)) (by simp; omega))
        have OF := hid (World.ownsRow.kept (row := some w1.heap.size) own3 (setCell_grown w3 w1.heap.size 2 (.slice A3 (N + 1) c3)) (.inr (fun e => by have := (own3.lt _ e).1; omega)))
        have HK1 := hid hk1
        have HL1 := hid hl1
        have HF1 := hid hf1
        clear hk1 hl1 hf1 own3 hg3 hat3 hb3
        go_wp2_with fail
        refine ⟨⟨k + 1, A3, c3, by omega, by go_num, BF.out, RF.out, ?_, ?_, by simp; omega⟩, by simp [intOf]; omega⟩
        · rw [HK1.out, HL1.out]; exact QF.out
        · rw [HK1.out, HL1.out, HF1.out]; exact OF.out
      · go_wp2_with fail
        refine ⟨⟨k + 1, A, c1, by omega, by go_num, HB9.out, HR9.out, ?_, ?_, by omega⟩, by simp [intOf]; omega⟩
        · have := HK.out
          simp only [if_true, List.append_nil] at this
          rw [this, HNL.out.1]
          exact HQ9.out
        · have := HK.out
          simp only [if_true, List.append_nil] at this
          rw [this, HNL.out.1, HNL.out.2]
          exact Ho9.out
    · obtain rfl : k = xs.length := by omega
      have Ho := hid own
      have HB := hid hbl
      rw [List.take_length] at hq
      have HQ := hid hq
      obtain ⟨⟨q9, q0, q1, q2⟩, _, _, _⟩ := hq
      obtain ⟨⟨r9, r0, r1, r2⟩, z0, z1, z2⟩ := hr
      clear own hbl
      go_wp2_with fail
      refine bodyPost_ret (v := .agg #[.int .i8 wi, .int .i8 hi, .slice A (keepL gs 0 xs).length c1]) (by simp [results, Tryz.results46, go_sem, r0, r1, r2, r9]) rfl ⟨A, c1, rfl, ?_, ?_⟩
      · repeat (refine Below.setCell ?_ (by simp; try omega) _)
        exact HB.out
      · have own := Ho.out
        rw [List.take_length] at own
        repeat (refine World.ownsRow.kept (row := some w.heap.size) ?_ (setCell_grown _ _ _ _) (.inr (fun e => by have := (own.lt _ e).1; omega)))
        exact own_low own (by omega)
end Go.Proofs.YthhfndifcdiomaaGreat
