/-
  Some pieces of a board alone: the reference's board in its own order, the program's in a list's.
  Conditions: the list's numbers are those of pieces.
-/
import Derived.Test.YthhfndifcdiomaaGreatWithoutI
import Derived.Test.YthhfndifcdiomaaGreatOrdLaw
namespace Go.Proofs.YthhfndifcdiomaaGreat
open Go.RowKit
set_option linter.unusedSimpArgs false
set_option linter.unusedVariables false

theorem some_len (gs : List Int) (xs : List Pc) (i : Nat) : (someL gs i xs).length ≤ xs.length := (some_sub gs xs i).length_le
set_option maxRecDepth 100000 in
set_option maxHeartbeats 1000000 in
theorem some_S (b : Nat) (wi hi : Int) (a : Option Addr) (c : Nat) (xs : List Pc) (a2 : Option Addr) (c2 : Nat) (gs : List Int) (w : World) (hs : xs.length ≤ 1048576) (hb : BdA w b wi hi a xs.length c) (h : SlA Pc.enc 5 w a xs) (h2 : SlA en1 1 w a2 gs) :
    Calls Tryz.prog 42 #[.pointer (some ⟨b, 0, none⟩), .slice a2 gs.length c2] w (ResBd w wi hi (someL gs 0 xs)) := by
  have hbd := hb
  obtain ⟨g9, g0, g1, g2⟩ := hb
  go_enter Tryz.func42, Tryz.ntmps42
  go_wp2_with fail
  go_region
  have HW : Below w.heap.size w ((w.alloc (Obj.cells #[.int .i8 0, .int .i8 0, .slice none 0 0] 27)).alloc (Obj.cells #[.int .i8 wi, .int .i8 hi, .slice none 0 0] 27)).drew := ((((Below.refl _ _).alloc (Nat.le_refl _) _).alloc (by simp) _)).drew
  go_wp2_with fail
  go_loopw [6] (fun i wr => ∃ (k : Nat) (A : Option Addr) (c1 : Nat), k ≤ xs.length ∧ i = .int .i64 k ∧ Below w.heap.size w wr ∧ BoxB wr w.heap.size 0 0 none 0 0 ∧ BoxB wr (w.heap.size + 1) wi hi A (someL gs 0 (xs.take k)).length c1 ∧ wr.ownsRow (w.heap.size + 2) 76 5 (.slice A (someL gs 0 (xs.take k)).length c1) (someL gs 0 (xs.take k)).length ((someL gs 0 (xs.take k)).flatMap Pc.enc) ∧ w.heap.size + 2 ≤ wr.heap.size) (fun i _ => xs.length - (intOf i).toNat)
  case atStart => exact ⟨0, none, 0, Nat.zero_le _, rfl, HW, ⟨⟨by simp; omega, by simp [go_sem], by simp [go_sem], by simp [go_sem]⟩, by simp [go_sem], by simp [go_sem], by simp [go_sem]⟩, ⟨⟨by simp, by simp [go_sem], by simp [go_sem], by simp [go_sem, someL]⟩, by simp [go_sem], by simp [go_sem], by simp [go_sem]⟩, World.ownsRow_nil _ _ _ _, by simp⟩
  case round =>
    obtain ⟨k, A, c1, hk, rfl, hbl, hr, hq, own, hsz⟩ := hrel
    by_cases hlt : k < xs.length
    · obtain ⟨b1, o1, rfl, hb1, hc1⟩ := h.cells (by omega)
      have e1 : xs[k]? = some xs[k] := List.getElem?_eq_getElem hlt
      have Hp := hid e1
      clear e1
      generalize xs[k] = p at *
      have HK := hid (some_step (gs := gs) Hp.out)
      have k2 : wr.cell? ⟨b, 2, none⟩ = some (.slice (some ⟨b1, o1, none⟩) xs.length c) := (hbl.cell (p := ⟨b, _, none⟩) g9).trans g2
      have Hh := hid (fun W hB => has_S a2 c2 gs (k : Int) W ((h2.below hbl).below hB))
      obtain ⟨d1, hd1⟩ : ∃ d1 : Bool, gs.any (isN (k : Int)) = d1 := ⟨_, rfl⟩
      rw [hd1] at Hh HK
      have hz := hbl.size
      have HC := hid (fun W (hB : Below wr.heap.size wr W) => (hbl.trans (hB.mono hz)).cell (p := ⟨b1, o1 + k * 5, none⟩) hb1)
      obtain ⟨N, hN⟩ : ∃ N, (someL gs 0 (xs.take k)).length = N := ⟨_, rfl⟩
      obtain ⟨L, hL⟩ : ∃ L, (someL gs 0 (xs.take k)).flatMap Pc.enc = L := ⟨_, rfl⟩
      have hNl : N ≤ k := by
        have := some_len gs (xs.take k) 0
        rw [hN, List.length_take] at this
        omega
      rw [hN] at hq
      rw [hN, hL] at own
      have HNL := hid (show (someL gs 0 (xs.take k)).length = N ∧ (someL gs 0 (xs.take k)).flatMap Pc.enc = L from ⟨hN, hL⟩)
      have Ho := hid own
      have HQ := hid hq
      have HR := hid hr
      have HB := hid hbl
      have f0 : w.cell? ⟨b1, o1 + k * 5, none⟩ = some (.int .i8 p.x) := hc1 k _ Hp.out 0 _ rfl
      have f1 : w.cell? ⟨b1, o1 + k * 5 + 1, none⟩ = some (.int .i8 p.y) := hc1 k _ Hp.out 1 _ rfl
      have f2 : w.cell? ⟨b1, o1 + k * 5 + 2, none⟩ = some (.int .i8 p.k) := hc1 k _ Hp.out 2 _ rfl
      have f3 : w.cell? ⟨b1, o1 + k * 5 + 3, none⟩ = some (.int .i8 p.t) := hc1 k _ Hp.out 3 _ rfl
      have f4 : w.cell? ⟨b1, o1 + k * 5 + 4, none⟩ = some (.int .i8 p.d) := hc1 k _ Hp.out 4 _ rfl
      clear hN hL own hq hr hbl hd1 hc1
      go_wp2_with fail
      refine (Hh.out _ (Below.refl _ _)).mono ?_
      rintro e w1 ⟨rfl, hb9⟩
      have hz9 := hb9.size
      have HB1 := hid (below_of HB.out hz hb9)
      have HQ1 := hid (HQ.out.below hb9 (HQ.out.bd.lt))
      have HR1 := hid (HR.out.below hb9 (HR.out.bd.lt))
      have Ho1 := hid (own_step Ho.out hb9)
      clear hb9
      cases d1
      · go_wp2_with fail
        refine ⟨⟨k + 1, A, c1, by omega, by go_num, HB1.out, HR1.out, ?_, ?_, by omega⟩, by simp [intOf]; omega⟩
        · have := HK.out
          simp only [Bool.false_eq_true, if_false, List.append_nil] at this
          rw [this, HNL.out.1]
          exact HQ1.out
        · have := HK.out
          simp only [Bool.false_eq_true, if_false, List.append_nil] at this
          rw [this, HNL.out.1, HNL.out.2]
          exact Ho1.out
      · have hu0 := hid (show (w.heap.size + 2) ≤ w1.heap.size by omega)
        have agb : (Value.slice A N c1).ownBlock ≠ some b := fun e => by have := (Ho1.out.lt b e).1; omega
        have agp : (Value.slice A N c1).ownBlock ≠ some b1 := fun e => by have := (Ho1.out.lt b1 e).1; omega
        have agq : (Value.slice A N c1).ownBlock ≠ some (w.heap.size + 1) := fun e => by have := (Ho1.out.lt _ e).1; omega
        have k2 : w1.cell? ⟨b, 2, none⟩ = some (.slice (some ⟨b1, o1, none⟩) xs.length c) := (HB1.out.cell (p := ⟨b, _, none⟩) g9).trans g2
        replace f0 := (HB1.out.cell (p := ⟨b1, _, none⟩) hb1).trans f0
        replace f1 := (HB1.out.cell (p := ⟨b1, _, none⟩) hb1).trans f1
        replace f2 := (HB1.out.cell (p := ⟨b1, _, none⟩) hb1).trans f2
        replace f3 := (HB1.out.cell (p := ⟨b1, _, none⟩) hb1).trans f3
        replace f4 := (HB1.out.cell (p := ⟨b1, _, none⟩) hb1).trans f4
        have q2 := HQ1.out.bd.c2
        have q2a : ∀ o, (w1.alloc o).cell? ⟨w.heap.size + 1, 2, none⟩ = some (.slice A N c1) := fun o => cell_on ((Below.refl _ _).alloc (Nat.le_refl _) o) q2
        have hN6 : N + 1 ≤ maxLen := by unfold maxLen; omega
        have hN7 : (N + 1) * 5 ≤ 140737488355328 := by omega
        have hb1w : b1 ≠ w1.heap.size := by omega
        have hbw9 : b ≠ w1.heap.size := by omega
        have hqw : w.heap.size + 1 ≠ w1.heap.size := by omega
        have hqb : w.heap.size + 1 ≠ b := by omega
        have hqb1 : w.heap.size + 1 ≠ b1 := by omega
        obtain ⟨i0, hi0, hz0, hz1, hz2⟩ := info_parts (show (Tryz.prog.info? 76).map (fun i => (i.zero, i.size, i.bytes)) = some (some (.agg Pc.z.enc.toArray), 5, 5) by kernel_rfl)
        go_wp2_with fail
        go_region_law
          ((refine step_append_lies _ (by rfl) _ _ _ (by rfl) (w.heap.size + 2) 76 i0 _ 5 5 Tryz.underlying25 hi0 hz0 hz1 hz2 rfl (by omega) (.slice A N c1) N L (by rfl) ((Ho1.out.alloc _).drew)
              ⟨w1.heap.size, 0, none⟩ 1 1 [.int .i8 p.x, .int .i8 p.y, .int .i8 p.k, .int .i8 p.t, .int .i8 p.d] (by rfl) (by rfl) (World.news_of_block (cs := #[.int .i8 p.x, .int .i8 p.y, .int .i8 p.k, .int .i8 p.t, .int .i8 p.d]) (t := 76) (fr := (0, 0)) (heap_alloc_new w1 _)) (by simp [Value.oneCell'])
              (by omega) hN6 hN7 (by simp; omega) (w1.heap.size + 1) (by simp) ?_; intro gg cap w2 hown2 hgrow hat hlt2
            have y2 := ((HQ1.out.below ((Below.refl _ _).alloc (Nat.le_refl _) _).drew HQ1.out.bd.lt).kept hgrow (Ne.symm agq)).bd.c2
            have y3 := ((HQ1.out.below ((Below.refl _ _).alloc (Nat.le_refl _) _).drew HQ1.out.bd.lt).kept hgrow (Ne.symm agq)).z2))
        all_goals (
          have hk1 := HK.out
          simp only [if_true] at hk1
          have hl1 : (someL gs 0 (xs.take k) ++ [p]).length = N + 1 := by rw [List.length_append, HNL.out.1]; rfl
          have hf1 : (someL gs 0 (xs.take k) ++ [p]).flatMap Pc.enc = L ++ [.int .i8 p.x, .int .i8 p.y, .int .i8 p.k, .int .i8 p.t, .int .i8 p.d] := by rw [List.flatMap_append, HNL.out.2]; simp [Pc.enc]
          have hs2 := hgrow.size
          simp only [World.size_alloc, World.size_drew] at hs2
          have BF := hid ((((HB1.out.alloc (by omega) _).drew).grown hgrow (by simp; omega) (fun k hk => by have := (Ho1.out.lt k hk).1; omega)).setCell (p := ⟨w.heap.size + 1, 2, none⟩) (by simp) (.slice (some ⟨gg, 0, none⟩) (N + 1) cap))
          have QF := hid (((HQ1.out.below ((Below.refl _ _).alloc (Nat.le_refl _) _).drew HQ1.out.bd.lt).kept hgrow (Ne.symm agq)).store (some ⟨gg, 0, none⟩) (N + 1) cap)
          have RF := hid (((HR1.out.below ((Below.refl _ _).alloc (Nat.le_refl _) _).drew HR1.out.bd.lt).kept hgrow (fun e => by have := (Ho1.out.lt _ e.symm).1; omega)).kept (setCell_grown w2 (w.heap.size + 1) 2 (.slice (some ⟨gg, 0, none⟩) (N + 1) cap)) (by simp))
          have OF := hid (World.ownsRow.kept (row := some (w.heap.size + 1)) hown2 (setCell_grown w2 (w.heap.size + 1) 2 (.slice (some ⟨gg, 0, none⟩) (N + 1) cap)) (.inr (fun e => by have := (hown2.lt _ e).1; omega)))
          have HK1 := hid hk1
          have HL1 := hid hl1
          have HF1 := hid hf1
          clear hk1 hl1 hf1 hown2 hgrow hat q2a
          go_wp2_with fail
          refine ⟨⟨k + 1, some ⟨gg, 0, none⟩, cap, by omega, by go_num, BF.out, RF.out, ?_, ?_, by simp; omega⟩, by simp [intOf]; omega⟩
          · rw [HK1.out, HL1.out]; exact QF.out
          · rw [HK1.out, HL1.out, HF1.out]; exact OF.out)
    · obtain rfl : k = xs.length := by omega
      have Ho := hid own
      have HB := hid hbl
      rw [List.take_length] at hq
      have HQ := hid hq
      have k2 : wr.cell? ⟨b, 2, none⟩ = some (.slice a xs.length c) := (hbl.cell (p := ⟨b, _, none⟩) g9).trans g2
      obtain ⟨⟨q9, q0, q1, q2⟩, _, _, _⟩ := hq
      obtain ⟨⟨r9, r0, r1, r2⟩, z0, z1, z2⟩ := hr
      clear own hbl
      go_wp2_with fail
      refine bodyPost_ret (v := .agg #[.int .i8 wi, .int .i8 hi, .slice A (someL gs 0 xs).length c1]) (by simp [results, Tryz.results42, go_sem, r0, r1, r2, r9]) rfl ⟨A, c1, rfl, ?_, ?_⟩
      · repeat (refine Below.setCell ?_ (by simp; try omega) _)
        exact HB.out
      · have own := Ho.out
        rw [List.take_length] at own
        repeat (refine World.ownsRow.kept (row := some w.heap.size) ?_ (setCell_grown _ _ _ _) (.inr (fun e => by have := (own.lt _ e).1; omega)))
        exact own_low own (by omega)
set_option maxRecDepth 100000 in
set_option maxHeartbeats 1000000 in
theorem only_I (b : Nat) (wi hi : Int) (a : Option Addr) (c : Nat) (xs : List Pc) (a2 : Option Addr) (c2 : Nat) (gs : List Int) (w : World) (hs : xs.length ≤ 1048576) (hb : BdA w b wi hi a xs.length c) (h : SlA Pc.enc 5 w a xs) (h2 : SlA en1 1 w a2 gs) (hgr : ∀ g ∈ gs, 0 ≤ g ∧ g < xs.length) (hgl : gs.length ≤ 1048576) :
    Calls Tryz.prog 33 #[.pointer (some ⟨b, 0, none⟩), .slice a2 gs.length c2] w (ResBd w wi hi (onlyL xs gs)) := by
  have B0 : ∀ o, Below w.heap.size w (w.alloc o) := fun o => (Below.refl _ _).alloc (Nat.le_refl _) _
  have Hw := hid (with_I b wi hi a xs.length c none 0 0 (w.alloc (.cells #[.int .i8 0, .int .i8 0, .slice none 0 0] 27)) (hb.below (B0 _) hb.lt))
  have HR0 := hid (show BoxB (w.alloc (.cells #[.int .i8 0, .int .i8 0, .slice none 0 0] 27)) w.heap.size 0 0 none 0 0 from ⟨⟨by simp, by simp [go_sem], by simp [go_sem], by simp [go_sem]⟩, by simp [go_sem], by simp [go_sem], by simp [go_sem]⟩)
  have HB0 := hid (B0 (.cells #[.int .i8 0, .int .i8 0, .slice none 0 0] 27))
  have hbd := hb
  obtain ⟨g9, g0, g1, g2⟩ := hb
  clear B0
  go_enter Tryz.func33, Tryz.ntmps33
  go_wp2_with fail
  refine Hw.out.mono ?_
  rintro e w1 ⟨rfl, hb1⟩
  have hz1 := hb1.size
  simp only [World.size_alloc] at hz1
  have HB1 := hid (below_of HB0.out (by simp) hb1)
  have HR1 := hid (HR0.out.below hb1 (by simp))
  have k2 : w1.cell? ⟨b, 2, none⟩ = some (.slice a xs.length c) := (HB1.out.cell (p := ⟨b, _, none⟩) g9).trans g2
  have hbw : b < w1.heap.size := by omega
  have hbn : b ≠ w1.heap.size := by omega
  have k2a : ∀ o, (w1.alloc o).cell? ⟨b, 2, none⟩ = some (.slice a xs.length c) := fun o => cell_on ((Below.refl _ _).alloc (Nat.le_refl _) o) k2
  have HQ1 := hid (show BoxB (w1.alloc (.cells #[.int .i8 wi, .int .i8 hi, .slice none 0 0] 27)) w1.heap.size wi hi none 0 0 from ⟨⟨by simp, by simp [go_sem], by simp [go_sem], by simp [go_sem]⟩, by simp [go_sem], by simp [go_sem], by simp [go_sem]⟩)
  have HB2 := hid (HB1.out.alloc (by omega) (.cells #[.int .i8 wi, .int .i8 hi, .slice none 0 0] 27))
  have HR2 := hid (HR1.out.below ((Below.refl w1.heap.size w1).alloc (Nat.le_refl _) (.cells #[.int .i8 wi, .int .i8 hi, .slice none 0 0] 27)) HR1.out.bd.lt)
  clear hb1
  go_wp2_with fail
  go_loopw [12] (fun i wr => ∃ (k : Nat) (A : Option Addr) (c1 : Nat), k ≤ gs.length ∧ i = .int .i64 k ∧ Below w.heap.size w wr ∧ BoxB wr w.heap.size 0 0 none 0 0 ∧ BoxB wr w1.heap.size wi hi A (onlyL xs (gs.take k)).length c1 ∧ wr.ownsRow (w1.heap.size + 1) 76 5 (.slice A (onlyL xs (gs.take k)).length c1) (onlyL xs (gs.take k)).length ((onlyL xs (gs.take k)).flatMap Pc.enc) ∧ w1.heap.size + 1 ≤ wr.heap.size) (fun i _ => gs.length - (intOf i).toNat)
  case atStart => exact ⟨0, none, 0, Nat.zero_le _, rfl, HB2.out, HR2.out, HQ1.out, World.ownsRow_nil _ _ _ _, by simp⟩
  case round =>
    obtain ⟨k, A, c1, hk, rfl, hbl, hr, hq, own, hsz⟩ := hrel
    by_cases hlt : k < gs.length
    · obtain ⟨bg, og, rfl, hbg, hcg⟩ := en1_cells h2 (by omega)
      have eg1 : gs[k]? = some gs[k] := List.getElem?_eq_getElem hlt
      obtain ⟨hg0, hg1⟩ := hgr gs[k] (List.getElem_mem hlt)
      have HEg := hid eg1
      generalize gs[k] = g at *
      obtain ⟨j, rfl⟩ : ∃ j : Nat, g = j := ⟨g.toNat, by omega⟩
      have hjl : j < xs.length := by omega
      obtain ⟨b1, o1, rfl, hb1, hc1⟩ := h.cells (by omega)
      have e1 : xs[j]? = some xs[j] := List.getElem?_eq_getElem hjl
      have Hp := hid e1
      clear e1
      generalize xs[j] = p at *
      have HK := hid (only_step HEg.out (by rw [Int.toNat_natCast]; exact Hp.out))
      have hz := hbl.size
      obtain ⟨N, hN⟩ : ∃ N, (onlyL xs (gs.take k)).length = N := ⟨_, rfl⟩
      obtain ⟨L, hL⟩ : ∃ L, (onlyL xs (gs.take k)).flatMap Pc.enc = L := ⟨_, rfl⟩
      have hNl : N ≤ k := by
        have := only_len (xs := xs) (gs := gs.take k) (fun g hg => hgr g (List.mem_of_mem_take hg))
        rw [hN, List.length_take] at this
        omega
      rw [hN] at hq
      rw [hN, hL] at own
      have HNL := hid (show (onlyL xs (gs.take k)).length = N ∧ (onlyL xs (gs.take k)).flatMap Pc.enc = L from ⟨hN, hL⟩)
      have Ho := hid own
      have HQ := hid hq
      have HR := hid hr
      have HB := hid hbl
      have fg : wr.cell? ⟨bg, og + k, none⟩ = some (.int .i64 (j : Int)) := (hbl.cell (p := ⟨bg, _, none⟩) hbg).trans (hcg k _ HEg.out)
      have f0 : wr.cell? ⟨b1, o1 + j * 5, none⟩ = some (.int .i8 p.x) := (hbl.cell (p := ⟨b1, _, none⟩) hb1).trans (hc1 j _ Hp.out 0 _ rfl)
      have f1 : wr.cell? ⟨b1, o1 + j * 5 + 1, none⟩ = some (.int .i8 p.y) := (hbl.cell (p := ⟨b1, _, none⟩) hb1).trans (hc1 j _ Hp.out 1 _ rfl)
      have f2 : wr.cell? ⟨b1, o1 + j * 5 + 2, none⟩ = some (.int .i8 p.k) := (hbl.cell (p := ⟨b1, _, none⟩) hb1).trans (hc1 j _ Hp.out 2 _ rfl)
      have f3 : wr.cell? ⟨b1, o1 + j * 5 + 3, none⟩ = some (.int .i8 p.t) := (hbl.cell (p := ⟨b1, _, none⟩) hb1).trans (hc1 j _ Hp.out 3 _ rfl)
      have f4 : wr.cell? ⟨b1, o1 + j * 5 + 4, none⟩ = some (.int .i8 p.d) := (hbl.cell (p := ⟨b1, _, none⟩) hb1).trans (hc1 j _ Hp.out 4 _ rfl)
      have k2 : wr.cell? ⟨b, 2, none⟩ = some (.slice (some ⟨b1, o1, none⟩) xs.length c) := (hbl.cell (p := ⟨b, _, none⟩) g9).trans g2
      have hki : (k : Int) < (gs.length : Int) := by omega
      have hd : decide ((k : Int) < (gs.length : Int)) = true := by rw [decide_eq_true_iff]; exact hki
      clear hN hL own hq hr hbl hc1 hcg eg1
      have hu0 := hid (show (w1.heap.size + 1) ≤ wr.heap.size by omega)
      have agb : (Value.slice A N c1).ownBlock ≠ some b := fun e => by have := (Ho.out.lt b e).1; omega
      have agp : (Value.slice A N c1).ownBlock ≠ some b1 := fun e => by have := (Ho.out.lt b1 e).1; omega
      have agq : (Value.slice A N c1).ownBlock ≠ some (w1.heap.size) := fun e => by have := (Ho.out.lt _ e).1; omega
      have q2 := HQ.out.bd.c2
      have q2a : ∀ o, (wr.alloc o).cell? ⟨w1.heap.size, 2, none⟩ = some (.slice A N c1) := fun o => cell_on ((Below.refl _ _).alloc (Nat.le_refl _) o) q2
      have hN6 : N + 1 ≤ maxLen := by unfold maxLen; omega
      have hN7 : (N + 1) * 5 ≤ 140737488355328 := by omega
      have hb1w : b1 ≠ wr.heap.size := by omega
      have hbw9 : b ≠ wr.heap.size := by omega
      have hqw : w1.heap.size ≠ wr.heap.size := by omega
      have hqb : w1.heap.size ≠ b := by omega
      have hqb1 : w1.heap.size ≠ b1 := by omega
      obtain ⟨i0, hi0, hz0, hz1, hz2⟩ := info_parts (show (Tryz.prog.info? 76).map (fun i => (i.zero, i.size, i.bytes)) = some (some (.agg Pc.z.enc.toArray), 5, 5) by kernel_rfl)
      go_wp2_with fail
      go_region_law
        ((refine step_append_lies _ (by rfl) _ _ _ (by rfl) (w1.heap.size + 1) 76 i0 _ 5 5 Tryz.underlying25 hi0 hz0 hz1 hz2 rfl (by omega) (.slice A N c1) N L (by rfl) ((Ho.out.alloc _).drew)
            ⟨wr.heap.size, 0, none⟩ 1 1 [.int .i8 p.x, .int .i8 p.y, .int .i8 p.k, .int .i8 p.t, .int .i8 p.d] (by rfl) (by rfl) (World.news_of_block (cs := #[.int .i8 p.x, .int .i8 p.y, .int .i8 p.k, .int .i8 p.t, .int .i8 p.d]) (t := 76) (fr := (0, 0)) (heap_alloc_new wr _)) (by simp [Value.oneCell'])
            (by omega) hN6 hN7 (by simp; omega) (wr.heap.size + 1) (by simp) ?_; intro gg cap w2 hown2 hgrow hat hlt2
          have y2 := ((HQ.out.below ((Below.refl _ _).alloc (Nat.le_refl _) _).drew HQ.out.bd.lt).kept hgrow (Ne.symm agq)).bd.c2
          have y3 := ((HQ.out.below ((Below.refl _ _).alloc (Nat.le_refl _) _).drew HQ.out.bd.lt).kept hgrow (Ne.symm agq)).z2))
      all_goals (
        have hk1 := HK.out
        have hl1 : (onlyL xs (gs.take k) ++ [p]).length = N + 1 := by rw [List.length_append, HNL.out.1]; rfl
        have hf1 : (onlyL xs (gs.take k) ++ [p]).flatMap Pc.enc = L ++ [.int .i8 p.x, .int .i8 p.y, .int .i8 p.k, .int .i8 p.t, .int .i8 p.d] := by rw [List.flatMap_append, HNL.out.2]; simp [Pc.enc]
        have hs2 := hgrow.size
        simp only [World.size_alloc, World.size_drew] at hs2
        have BF := hid ((((HB.out.alloc (by omega) _).drew).grown hgrow (by simp; omega) (fun k hk => by have := (Ho.out.lt k hk).1; omega)).setCell (p := ⟨w1.heap.size, 2, none⟩) (by simp; omega) (.slice (some ⟨gg, 0, none⟩) (N + 1) cap))
        have QF := hid (((HQ.out.below ((Below.refl _ _).alloc (Nat.le_refl _) _).drew HQ.out.bd.lt).kept hgrow (Ne.symm agq)).store (some ⟨gg, 0, none⟩) (N + 1) cap)
        have RF := hid (((HR.out.below ((Below.refl _ _).alloc (Nat.le_refl _) _).drew HR.out.bd.lt).kept hgrow (fun e => by have := (Ho.out.lt _ e.symm).1; omega)).kept (setCell_grown w2 (w1.heap.size) 2 (.slice (some ⟨gg, 0, none⟩) (N + 1) cap)) (by simp; omega))
        have OF := hid (World.ownsRow.kept (row := some (w1.heap.size)) hown2 (setCell_grown w2 (w1.heap.size) 2 (.slice (some ⟨gg, 0, none⟩) (N + 1) cap)) (.inr (fun e => by have := (hown2.lt _ e).1; omega)))
        have HK1 := hid hk1
        have HL1 := hid hl1
        have HF1 := hid hf1
        clear hk1 hl1 hf1 hown2 hgrow hat q2a
        go_wp2_with fail
        refine ⟨⟨k + 1, some ⟨gg, 0, none⟩, cap, by omega, by go_num, BF.out, RF.out, ?_, ?_, by simp; omega⟩, by simp [intOf]; omega⟩
        · rw [HK1.out, HL1.out]; exact QF.out
        · rw [HK1.out, HL1.out, HF1.out]; exact OF.out)
    · obtain rfl : k = gs.length := by omega
      have Ho := hid own
      have HB := hid hbl
      rw [List.take_length] at hq
      have HQ := hid hq
      obtain ⟨⟨q9, q0, q1, q2⟩, _, _, _⟩ := hq
      obtain ⟨⟨r9, r0, r1, r2⟩, z0, z1, z2⟩ := hr
      clear own hbl
      go_wp2_with fail
      refine bodyPost_ret (v := .agg #[.int .i8 wi, .int .i8 hi, .slice A (onlyL xs gs).length c1]) (by simp [results, Tryz.results33, go_sem, r0, r1, r2, r9]) rfl ⟨A, c1, rfl, ?_, ?_⟩
      · repeat (refine Below.setCell ?_ (by simp; try omega) _)
        exact HB.out
      · have own := Ho.out
        rw [List.take_length] at own
        repeat (refine World.ownsRow.kept (row := some w.heap.size) ?_ (setCell_grown _ _ _ _) (.inr (fun e => by have := (own.lt _ e).1; omega)))
        exact own_low own (by omega)
end Go.Proofs.YthhfndifcdiomaaGreat
