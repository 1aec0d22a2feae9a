/-
  CarriesPush, the program's.
  Conditions: the fields are in their kinds' ranges.
-/
import Derived.Test.YtdpheplbbenanaaCarryS
import Derived.Deep.CutRange
namespace Go.Proofs.Ytdpheplbbenanaa
open Go.RowKit
set_option linter.unusedSimpArgs false
set_option linter.unusedVariables false

set_option maxRecDepth 100000 in
set_option maxHeartbeats 4000000 in
theorem CarriesPush_I (w : World) (wi hi : Int) (wl : -128 ≤ wi) (wu : wi ≤ 127) (hl : -128 ≤ hi) (hu : hi ≤ 127) (a : Option Addr) (c : Nat) (xs : List Pc) (h : SlA Pc.enc 5 w a xs) (_ : a = none → c = 0) (ok : ∀ p ∈ xs, p.Ok) (_ : xs.length ≤ 1048576) (p : Wy) (okp : p.Ok) :
    Calls Try.prog 8 #[.agg #[.int .i8 wi, .int .i8 hi, .slice a xs.length c], .agg p.enc.toArray] w fun e w' => e = .returned (.tuple #[.int .i64 (CarriesPushG wi hi xs p).1, .int .i64 (CarriesPushG wi hi xs p).2]) ∧ Below w.heap.size w w' := by
  obtain ⟨fx, fy, sd, tx, ty, ou⟩ := p
  obtain ⟨fx0, fx1, fy0, fy1, sd0, sd1, tx0, tx1, ty0, ty1, ou0, ou1⟩ := okp
  dsimp only at fx0 fx1 fy0 fy1 sd0 sd1 tx0 tx1 ty0 ty1 ou0 ou1
  simp only [Wy.enc]
  obtain ⟨W0, hW0⟩ : ∃ W, W = (w.alloc (.cells #[.int .i8 wi, .int .i8 hi, .slice a xs.length c] 34)).alloc (.cells #[.int .i8 fx, .int .i8 fy, .int .i8 sd, .int .i8 tx, .int .i8 ty, .int .i8 ou] 38) := ⟨_, rfl⟩
  have B00 := (Below.refl w.heap.size w).alloc (Nat.le_refl _) (.cells #[.int .i8 wi, .int .i8 hi, .slice a xs.length c] 34)
  have B0 : Below w.heap.size w W0 := by rw [hW0]; exact B00.alloc (by simp) _
  have hbd : BdA W0 w.heap.size wi hi a xs.length c := by
    rw [hW0]
    have b1 : BdA (w.alloc (.cells #[.int .i8 wi, .int .i8 hi, .slice a xs.length c] 34)) w.heap.size wi hi a xs.length c := ⟨by simp, by simp [go_sem], by simp [go_sem], by simp [go_sem]⟩
    exact b1.below ((Below.refl _ _).alloc (Nat.le_refl _) _) b1.lt
  have hwy : ∀ W, Below W0.heap.size W0 W → W.cell? ⟨w.heap.size + 1, 0, none⟩ = some (.int .i8 fx) ∧ W.cell? ⟨w.heap.size + 1, 1, none⟩ = some (.int .i8 fy) ∧ W.cell? ⟨w.heap.size + 1, 2, none⟩ = some (.int .i8 sd) ∧ W.cell? ⟨w.heap.size + 1, 3, none⟩ = some (.int .i8 tx) ∧ W.cell? ⟨w.heap.size + 1, 4, none⟩ = some (.int .i8 ty) ∧ W.cell? ⟨w.heap.size + 1, 5, none⟩ = some (.int .i8 ou) := by
    intro W hb
    refine ⟨cell_on hb ?_, cell_on hb ?_, cell_on hb ?_, cell_on hb ?_, cell_on hb ?_, cell_on hb ?_⟩ <;> (rw [hW0]; simp [go_sem])
  have HWY := hid hwy
  have HB0 := hid B0
  have HBD := hid (fun W (hb : Below W0.heap.size W0 W) => (⟨hbd.below hb hbd.lt, (h.below B0).below hb⟩ : BdA W w.heap.size wi hi a xs.length c ∧ SlA Pc.enc 5 W a xs))
  have hw1 : IntKind.i64.wrap sd = sd := IntWalk.i64_in _ (by omega)
  have hw2 : IntKind.i64.wrap ou = ou := IntWalk.i64_in _ (by omega)
  have d0 : W0.cell? ⟨w.heap.size, 0, none⟩ = some (.int .i8 wi) := hbd.c0
  have d1 : W0.cell? ⟨w.heap.size, 1, none⟩ = some (.int .i8 hi) := hbd.c1
  have d2 : W0.cell? ⟨w.heap.size, 2, none⟩ = some (.slice a xs.length c) := hbd.c2
  have HOk := hid (ValidBoard_I wi hi a c xs W0 ⟨wl, wu, hl, hu⟩ (h.below B0) ok)
  have HFi := hid (fun W (hb : Below W0.heap.size W0 W) x y => at_I w.heap.size wi hi a c xs x y W (HBD.out W hb).1 (HBD.out W hb).2)
  have HSi := hid (fun n W => side_I n W)
  cases hbk : bdOk wi hi xs with
  | false =>
    have G := hid (show CarriesPushG wi hi xs ⟨fx, fy, sd, tx, ty, ou⟩ = (0, 1) by unfold CarriesPushG; rw [hbk]; rfl)
    rw [hbk] at HOk
    clear hbd h B0 B00 hbk hwy
    go_enter Try.func8, Try.ntmps8
    go_upto_region 1 with fail
    rw [← hW0]
    clear hW0
    go_wp2_with fail
    refine HOk.out.mono ?_
    rintro e w1 ⟨rfl, hb1⟩
    have B1 := hid hb1
    obtain ⟨y0, y1, y2, y3, y4, y5⟩ := HWY.out w1 hb1
    clear hb1
    go_wp2_with fail
    refine bodyPost_ret (v := .tuple #[.int .i64 0, .int .i64 1]) (by simp [results, Try.results8, go_sem]) rfl ?_
    exact ⟨by rw [G.out], below_of HB0.out HB0.out.size B1.out⟩
  | true =>
    rw [hbk] at HOk
    have hB := brd_of hbk
    have hn : xs.length ≤ 200 := hB.n
    clear B00 hwy
    cases hw : wayOk xs ⟨fx, fy, sd, tx, ty, ou⟩ with
    | false =>
      have G := hid (show CarriesPushG wi hi xs ⟨fx, fy, sd, tx, ty, ou⟩ = (0, 2) by unfold CarriesPushG; rw [if_pos hbk, hw]; rfl)
      clear hbd h B0 hbk hB
      by_cases hF : idxOf (atC fx fy) xs < 0
      · have e1 : decide (idxOf (atC fx fy) xs < 0) = true := decide_eq_true hF
        go_enter Try.func8, Try.ntmps8
        go_upto_region 1 with fail
        rw [← hW0]
        clear hW0
        go_wp2_with fail
        refine HOk.out.mono ?_
        rintro e w1 ⟨rfl, hb1⟩
        have B1 := hid hb1
        obtain ⟨y0, y1, y2, y3, y4, y5⟩ := HWY.out w1 hb1
        clear hb1
        go_wp2_with fail
        go_cut [6, 7] from 13 to 18 (fun s6 s7 wx => s6 = .int .i64 (idxOf (atC fx fy) xs) ∧ s7 = .int .i64 (idxOf (atC tx ty) xs) ∧ Below w1.heap.size w1 wx)
        case first =>
          refine wp_region_held_drew (S := fun W => W.cell? ⟨w.heap.size + 1, 0, none⟩ = some (.int .i8 fx) ∧ W.cell? ⟨w.heap.size + 1, 1, none⟩ = some (.int .i8 fy) ∧ W.cell? ⟨w.heap.size + 1, 2, none⟩ = some (.int .i8 sd) ∧ W.cell? ⟨w.heap.size + 1, 3, none⟩ = some (.int .i8 tx) ∧ W.cell? ⟨w.heap.size + 1, 4, none⟩ = some (.int .i8 ty) ∧ W.cell? ⟨w.heap.size + 1, 5, none⟩ = some (.int .i8 ou)) (by kernel_rfl) (HWY.out _ B1.out.drew) (fun hH0 => ?_)
          refine wpAnyH_take (i := 0) (oi := ⟨some 13, _, _, _, _, _⟩) (v := ?_) rfl (by kernel_rfl) (by kernel_rfl) (by kernel_rfl) (fun _ _ _ h => h) (Or.inl ⟨by kernel_rfl, ?_⟩) hH0 ?_
          rotate_left 1
          · (intro W hSw; (try dsimp only at hSw); go_simp; try with_reducible rfl)
          try simp only [Act.put, List.setIfInBounds_toArray, List.set_cons_zero, List.set_cons_succ]
          refine wpAnyH_take (i := 1) (oi := ⟨some 14, _, _, _, _, _⟩) (v := ?_) rfl (by kernel_rfl) (by kernel_rfl) (by kernel_rfl) (fun _ _ _ h => h) (Or.inl ⟨by kernel_rfl, ?_⟩) hH0 ?_
          rotate_left 1
          · (intro W hSw; (try dsimp only at hSw); go_simp; try with_reducible rfl)
          try simp only [Act.put, List.setIfInBounds_toArray, List.set_cons_zero, List.set_cons_succ]
          refine wpAnyH_take (i := 3) (oi := ⟨some 16, _, _, _, _, _⟩) (v := ?_) rfl (by kernel_rfl) (by kernel_rfl) (by kernel_rfl) (fun _ _ _ h => h) (Or.inl ⟨by kernel_rfl, ?_⟩) hH0 ?_
          rotate_left 1
          · (intro W hSw; (try dsimp only at hSw); go_simp; try with_reducible rfl)
          try simp only [Act.put, List.setIfInBounds_toArray, List.set_cons_zero, List.set_cons_succ]
          refine wpAnyH_take (i := 4) (oi := ⟨some 17, _, _, _, _, _⟩) (v := ?_) rfl (by kernel_rfl) (by kernel_rfl) (by kernel_rfl) (fun _ _ _ h => h) (Or.inl ⟨by kernel_rfl, ?_⟩) hH0 ?_
          rotate_left 1
          · (intro W hSw; (try dsimp only at hSw); go_simp; try with_reducible rfl)
          try simp only [Act.put, List.setIfInBounds_toArray, List.set_cons_zero, List.set_cons_succ]
          refine wpAnyH_ready (rs := [2]) (by kernel_rfl) (by simp) ?_
          refine AllReadyH.cons rfl (fun K hK => ?_) AllReadyH.nil
          · go_simp
            refine (HFi.out w1.drew B1.out.drew fx fy).mono ?_
            rintro e w2 ⟨rfl, hb2⟩
            have B2 := hid (below_of B1.out.drew (by simpa using B1.out.size) hb2)
            have V2 := hid (below_then ((Below.refl w1.heap.size w1).drew) hb2)
            clear hb2
            refine hK.out _ _ (HWY.out w2 B2.out) (fun hH1 => ?_)
            clear hK K
            try simp only [Act.put, List.setIfInBounds_toArray, List.set_cons_zero, List.set_cons_succ]
            refine wpAnyH_ready (rs := [5]) (by kernel_rfl) (by simp) ?_
            refine AllReadyH.cons rfl (fun K hK => ?_) AllReadyH.nil
            go_simp
            refine (HFi.out w2 B2.out tx ty).mono ?_
            rintro e w3 ⟨rfl, hb3⟩
            have B3 := hid (below_of B2.out B2.out.size hb3)
            have V3 := hid (below_then V2.out hb3)
            clear hb3
            refine hK.out _ _ (HWY.out w3 B3.out) (fun hH2 => ?_)
            clear hK K
            try simp only [Act.put, List.setIfInBounds_toArray, List.set_cons_zero, List.set_cons_succ]
            refine wpAnyH_take (i := 6) (oi := ⟨some 6, _, _, _, _, _⟩) (v := ?_) rfl (by kernel_rfl) (by kernel_rfl) (by kernel_rfl) (fun _ _ _ h => h) (Or.inl ⟨by kernel_rfl, ?_⟩) hH2 ?_
            rotate_left 1
            · (intro W hSw; (try dsimp only at hSw); go_simp; try with_reducible rfl)
            try simp only [Act.put, List.setIfInBounds_toArray, List.set_cons_zero, List.set_cons_succ]
            refine wpAnyH_take (i := 7) (oi := ⟨some 7, _, _, _, _, _⟩) (v := ?_) rfl (by kernel_rfl) (by kernel_rfl) (by kernel_rfl) (fun _ _ _ h => h) (Or.inl ⟨by kernel_rfl, ?_⟩) hH2 ?_
            rotate_left 1
            · (intro W hSw; (try dsimp only at hSw); go_simp; try with_reducible rfl)
            try simp only [Act.put, List.setIfInBounds_toArray, List.set_cons_zero, List.set_cons_succ]
            refine wpAnyH_done (by kernel_rfl) ?_ _
            go_wp2_with fail
            go_meet
            exact ⟨rfl, rfl, V3.out⟩
        case rest =>
          obtain ⟨rfl, rfl, hbc⟩ := hcut
          obtain ⟨w3, hw3⟩ : ∃ W, W = wc := ⟨_, rfl⟩
          subst hw3
          have B3 := hid (below_of B1.out B1.out.size hbc)
          clear hbc y0 y1 y2 y3 y4 y5
          obtain ⟨y0, y1, y2, y3, y4, y5⟩ := HWY.out w3 B3.out
          go_wp2_with (go_at_call 20; refine (HSi.out _ _).mono ?_; rintro e w9 ⟨rfl, rfl⟩)
          refine bodyPost_ret (v := .tuple #[.int .i64 0, .int .i64 2]) (by simp [results, Try.results8, go_sem]) rfl ?_
          exact ⟨by rw [G.out], below_of HB0.out HB0.out.size B3.out⟩
      · have e1 : decide (idxOf (atC fx fy) xs < 0) = false := decide_eq_false hF
        by_cases hT : idxOf (atC tx ty) xs < 0
        · have e2 : decide (idxOf (atC tx ty) xs < 0) = true := decide_eq_true hT
          go_enter Try.func8, Try.ntmps8
          go_upto_region 1 with fail
          rw [← hW0]
          clear hW0
          go_wp2_with fail
          refine HOk.out.mono ?_
          rintro e w1 ⟨rfl, hb1⟩
          have B1 := hid hb1
          obtain ⟨y0, y1, y2, y3, y4, y5⟩ := HWY.out w1 hb1
          clear hb1
          go_wp2_with fail
          go_cut [6, 7] from 13 to 18 (fun s6 s7 wx => s6 = .int .i64 (idxOf (atC fx fy) xs) ∧ s7 = .int .i64 (idxOf (atC tx ty) xs) ∧ Below w1.heap.size w1 wx)
          case first =>
            refine wp_region_held_drew (S := fun W => W.cell? ⟨w.heap.size + 1, 0, none⟩ = some (.int .i8 fx) ∧ W.cell? ⟨w.heap.size + 1, 1, none⟩ = some (.int .i8 fy) ∧ W.cell? ⟨w.heap.size + 1, 2, none⟩ = some (.int .i8 sd) ∧ W.cell? ⟨w.heap.size + 1, 3, none⟩ = some (.int .i8 tx) ∧ W.cell? ⟨w.heap.size + 1, 4, none⟩ = some (.int .i8 ty) ∧ W.cell? ⟨w.heap.size + 1, 5, none⟩ = some (.int .i8 ou)) (by kernel_rfl) (HWY.out _ B1.out.drew) (fun hH0 => ?_)
            refine wpAnyH_take (i := 0) (oi := ⟨some 13, _, _, _, _, _⟩) (v := ?_) rfl (by kernel_rfl) (by kernel_rfl) (by kernel_rfl) (fun _ _ _ h => h) (Or.inl ⟨by kernel_rfl, ?_⟩) hH0 ?_
            rotate_left 1
            · (intro W hSw; (try dsimp only at hSw); go_simp; try with_reducible rfl)
            try simp only [Act.put, List.setIfInBounds_toArray, List.set_cons_zero, List.set_cons_succ]
            refine wpAnyH_take (i := 1) (oi := ⟨some 14, _, _, _, _, _⟩) (v := ?_) rfl (by kernel_rfl) (by kernel_rfl) (by kernel_rfl) (fun _ _ _ h => h) (Or.inl ⟨by kernel_rfl, ?_⟩) hH0 ?_
            rotate_left 1
            · (intro W hSw; (try dsimp only at hSw); go_simp; try with_reducible rfl)
            try simp only [Act.put, List.setIfInBounds_toArray, List.set_cons_zero, List.set_cons_succ]
            refine wpAnyH_take (i := 3) (oi := ⟨some 16, _, _, _, _, _⟩) (v := ?_) rfl (by kernel_rfl) (by kernel_rfl) (by kernel_rfl) (fun _ _ _ h => h) (Or.inl ⟨by kernel_rfl, ?_⟩) hH0 ?_
            rotate_left 1
            · (intro W hSw; (try dsimp only at hSw); go_simp; try with_reducible rfl)
            try simp only [Act.put, List.setIfInBounds_toArray, List.set_cons_zero, List.set_cons_succ]
            refine wpAnyH_take (i := 4) (oi := ⟨some 17, _, _, _, _, _⟩) (v := ?_) rfl (by kernel_rfl) (by kernel_rfl) (by kernel_rfl) (fun _ _ _ h => h) (Or.inl ⟨by kernel_rfl, ?_⟩) hH0 ?_
            rotate_left 1
            · (intro W hSw; (try dsimp only at hSw); go_simp; try with_reducible rfl)
            try simp only [Act.put, List.setIfInBounds_toArray, List.set_cons_zero, List.set_cons_succ]
            refine wpAnyH_ready (rs := [2]) (by kernel_rfl) (by simp) ?_
            refine AllReadyH.cons rfl (fun K hK => ?_) AllReadyH.nil
            · go_simp
              refine (HFi.out w1.drew B1.out.drew fx fy).mono ?_
              rintro e w2 ⟨rfl, hb2⟩
              have B2 := hid (below_of B1.out.drew (by simpa using B1.out.size) hb2)
              have V2 := hid (below_then ((Below.refl w1.heap.size w1).drew) hb2)
              clear hb2
              refine hK.out _ _ (HWY.out w2 B2.out) (fun hH1 => ?_)
              clear hK K
              try simp only [Act.put, List.setIfInBounds_toArray, List.set_cons_zero, List.set_cons_succ]
              refine wpAnyH_ready (rs := [5]) (by kernel_rfl) (by simp) ?_
              refine AllReadyH.cons rfl (fun K hK => ?_) AllReadyH.nil
              go_simp
              refine (HFi.out w2 B2.out tx ty).mono ?_
              rintro e w3 ⟨rfl, hb3⟩
              have B3 := hid (below_of B2.out B2.out.size hb3)
              have V3 := hid (below_then V2.out hb3)
              clear hb3
              refine hK.out _ _ (HWY.out w3 B3.out) (fun hH2 => ?_)
              clear hK K
              try simp only [Act.put, List.setIfInBounds_toArray, List.set_cons_zero, List.set_cons_succ]
              refine wpAnyH_take (i := 6) (oi := ⟨some 6, _, _, _, _, _⟩) (v := ?_) rfl (by kernel_rfl) (by kernel_rfl) (by kernel_rfl) (fun _ _ _ h => h) (Or.inl ⟨by kernel_rfl, ?_⟩) hH2 ?_
              rotate_left 1
              · (intro W hSw; (try dsimp only at hSw); go_simp; try with_reducible rfl)
              try simp only [Act.put, List.setIfInBounds_toArray, List.set_cons_zero, List.set_cons_succ]
              refine wpAnyH_take (i := 7) (oi := ⟨some 7, _, _, _, _, _⟩) (v := ?_) rfl (by kernel_rfl) (by kernel_rfl) (by kernel_rfl) (fun _ _ _ h => h) (Or.inl ⟨by kernel_rfl, ?_⟩) hH2 ?_
              rotate_left 1
              · (intro W hSw; (try dsimp only at hSw); go_simp; try with_reducible rfl)
              try simp only [Act.put, List.setIfInBounds_toArray, List.set_cons_zero, List.set_cons_succ]
              refine wpAnyH_done (by kernel_rfl) ?_ _
              go_wp2_with fail
              go_meet
              exact ⟨rfl, rfl, V3.out⟩
          case rest =>
            obtain ⟨rfl, rfl, hbc⟩ := hcut
            obtain ⟨w3, hw3⟩ : ∃ W, W = wc := ⟨_, rfl⟩
            subst hw3
            have B3 := hid (below_of B1.out B1.out.size hbc)
            clear hbc y0 y1 y2 y3 y4 y5
            obtain ⟨y0, y1, y2, y3, y4, y5⟩ := HWY.out w3 B3.out
            go_wp2_with (go_at_call 20; refine (HSi.out _ _).mono ?_; rintro e w9 ⟨rfl, rfl⟩)
            refine bodyPost_ret (v := .tuple #[.int .i64 0, .int .i64 2]) (by simp [results, Try.results8, go_sem]) rfl ?_
            exact ⟨by rw [G.out], below_of HB0.out HB0.out.size B3.out⟩
        · have e2 : decide (idxOf (atC tx ty) xs < 0) = false := decide_eq_false hT
          cases hs1 : inB sd 0 3 with
          | false =>
            go_enter Try.func8, Try.ntmps8
            go_upto_region 1 with fail
            rw [← hW0]
            clear hW0
            go_wp2_with fail
            refine HOk.out.mono ?_
            rintro e w1 ⟨rfl, hb1⟩
            have B1 := hid hb1
            obtain ⟨y0, y1, y2, y3, y4, y5⟩ := HWY.out w1 hb1
            clear hb1
            go_wp2_with fail
            go_cut [6, 7] from 13 to 18 (fun s6 s7 wx => s6 = .int .i64 (idxOf (atC fx fy) xs) ∧ s7 = .int .i64 (idxOf (atC tx ty) xs) ∧ Below w1.heap.size w1 wx)
            case first =>
              refine wp_region_held_drew (S := fun W => W.cell? ⟨w.heap.size + 1, 0, none⟩ = some (.int .i8 fx) ∧ W.cell? ⟨w.heap.size + 1, 1, none⟩ = some (.int .i8 fy) ∧ W.cell? ⟨w.heap.size + 1, 2, none⟩ = some (.int .i8 sd) ∧ W.cell? ⟨w.heap.size + 1, 3, none⟩ = some (.int .i8 tx) ∧ W.cell? ⟨w.heap.size + 1, 4, none⟩ = some (.int .i8 ty) ∧ W.cell? ⟨w.heap.size + 1, 5, none⟩ = some (.int .i8 ou)) (by kernel_rfl) (HWY.out _ B1.out.drew) (fun hH0 => ?_)
              refine wpAnyH_take (i := 0) (oi := ⟨some 13, _, _, _, _, _⟩) (v := ?_) rfl (by kernel_rfl) (by kernel_rfl) (by kernel_rfl) (fun _ _ _ h => h) (Or.inl ⟨by kernel_rfl, ?_⟩) hH0 ?_
              rotate_left 1
              · (intro W hSw; (try dsimp only at hSw); go_simp; try with_reducible rfl)
              try simp only [Act.put, List.setIfInBounds_toArray, List.set_cons_zero, List.set_cons_succ]
              refine wpAnyH_take (i := 1) (oi := ⟨some 14, _, _, _, _, _⟩) (v := ?_) rfl (by kernel_rfl) (by kernel_rfl) (by kernel_rfl) (fun _ _ _ h => h) (Or.inl ⟨by kernel_rfl, ?_⟩) hH0 ?_
              rotate_left 1
              · (intro W hSw; (try dsimp only at hSw); go_simp; try with_reducible rfl)
              try simp only [Act.put, List.setIfInBounds_toArray, List.set_cons_zero, List.set_cons_succ]
              refine wpAnyH_take (i := 3) (oi := ⟨some 16, _, _, _, _, _⟩) (v := ?_) rfl (by kernel_rfl) (by kernel_rfl) (by kernel_rfl) (fun _ _ _ h => h) (Or.inl ⟨by kernel_rfl, ?_⟩) hH0 ?_
              rotate_left 1
              · (intro W hSw; (try dsimp only at hSw); go_simp; try with_reducible rfl)
              try simp only [Act.put, List.setIfInBounds_toArray, List.set_cons_zero, List.set_cons_succ]
              refine wpAnyH_take (i := 4) (oi := ⟨some 17, _, _, _, _, _⟩) (v := ?_) rfl (by kernel_rfl) (by kernel_rfl) (by kernel_rfl) (fun _ _ _ h => h) (Or.inl ⟨by kernel_rfl, ?_⟩) hH0 ?_
              rotate_left 1
              · (intro W hSw; (try dsimp only at hSw); go_simp; try with_reducible rfl)
              try simp only [Act.put, List.setIfInBounds_toArray, List.set_cons_zero, List.set_cons_succ]
              refine wpAnyH_ready (rs := [2]) (by kernel_rfl) (by simp) ?_
              refine AllReadyH.cons rfl (fun K hK => ?_) AllReadyH.nil
              · go_simp
                refine (HFi.out w1.drew B1.out.drew fx fy).mono ?_
                rintro e w2 ⟨rfl, hb2⟩
                have B2 := hid (below_of B1.out.drew (by simpa using B1.out.size) hb2)
                have V2 := hid (below_then ((Below.refl w1.heap.size w1).drew) hb2)
                clear hb2
                refine hK.out _ _ (HWY.out w2 B2.out) (fun hH1 => ?_)
                clear hK K
                try simp only [Act.put, List.setIfInBounds_toArray, List.set_cons_zero, List.set_cons_succ]
                refine wpAnyH_ready (rs := [5]) (by kernel_rfl) (by simp) ?_
                refine AllReadyH.cons rfl (fun K hK => ?_) AllReadyH.nil
                go_simp
                refine (HFi.out w2 B2.out tx ty).mono ?_
                rintro e w3 ⟨rfl, hb3⟩
                have B3 := hid (below_of B2.out B2.out.size hb3)
                have V3 := hid (below_then V2.out hb3)
                clear hb3
                refine hK.out _ _ (HWY.out w3 B3.out) (fun hH2 => ?_)
                clear hK K
                try simp only [Act.put, List.setIfInBounds_toArray, List.set_cons_zero, List.set_cons_succ]
                refine wpAnyH_take (i := 6) (oi := ⟨some 6, _, _, _, _, _⟩) (v := ?_) rfl (by kernel_rfl) (by kernel_rfl) (by kernel_rfl) (fun _ _ _ h => h) (Or.inl ⟨by kernel_rfl, ?_⟩) hH2 ?_
                rotate_left 1
                · (intro W hSw; (try dsimp only at hSw); go_simp; try with_reducible rfl)
                try simp only [Act.put, List.setIfInBounds_toArray, List.set_cons_zero, List.set_cons_succ]
                refine wpAnyH_take (i := 7) (oi := ⟨some 7, _, _, _, _, _⟩) (v := ?_) rfl (by kernel_rfl) (by kernel_rfl) (by kernel_rfl) (fun _ _ _ h => h) (Or.inl ⟨by kernel_rfl, ?_⟩) hH2 ?_
                rotate_left 1
                · (intro W hSw; (try dsimp only at hSw); go_simp; try with_reducible rfl)
                try simp only [Act.put, List.setIfInBounds_toArray, List.set_cons_zero, List.set_cons_succ]
                refine wpAnyH_done (by kernel_rfl) ?_ _
                go_wp2_with fail
                go_meet
                exact ⟨rfl, rfl, V3.out⟩
            case rest =>
              obtain ⟨rfl, rfl, hbc⟩ := hcut
              obtain ⟨w3, hw3⟩ : ∃ W, W = wc := ⟨_, rfl⟩
              subst hw3
              have B3 := hid (below_of B1.out B1.out.size hbc)
              clear hbc y0 y1 y2 y3 y4 y5
              obtain ⟨y0, y1, y2, y3, y4, y5⟩ := HWY.out w3 B3.out
              go_wp2_with (go_at_call 20; refine (HSi.out _ _).mono ?_; rintro e w9 ⟨rfl, rfl⟩)
              refine bodyPost_ret (v := .tuple #[.int .i64 0, .int .i64 2]) (by simp [results, Try.results8, go_sem]) rfl ?_
              exact ⟨by rw [G.out], below_of HB0.out HB0.out.size B3.out⟩
          | true =>
            cases hs2 : inB ou 0 3 with
            | false =>
              go_enter Try.func8, Try.ntmps8
              go_upto_region 1 with fail
              rw [← hW0]
              clear hW0
              go_wp2_with fail
              refine HOk.out.mono ?_
              rintro e w1 ⟨rfl, hb1⟩
              have B1 := hid hb1
              obtain ⟨y0, y1, y2, y3, y4, y5⟩ := HWY.out w1 hb1
              clear hb1
              go_wp2_with fail
              go_cut [6, 7] from 13 to 18 (fun s6 s7 wx => s6 = .int .i64 (idxOf (atC fx fy) xs) ∧ s7 = .int .i64 (idxOf (atC tx ty) xs) ∧ Below w1.heap.size w1 wx)
              case first =>
                refine wp_region_held_drew (S := fun W => W.cell? ⟨w.heap.size + 1, 0, none⟩ = some (.int .i8 fx) ∧ W.cell? ⟨w.heap.size + 1, 1, none⟩ = some (.int .i8 fy) ∧ W.cell? ⟨w.heap.size + 1, 2, none⟩ = some (.int .i8 sd) ∧ W.cell? ⟨w.heap.size + 1, 3, none⟩ = some (.int .i8 tx) ∧ W.cell? ⟨w.heap.size + 1, 4, none⟩ = some (.int .i8 ty) ∧ W.cell? ⟨w.heap.size + 1, 5, none⟩ = some (.int .i8 ou)) (by kernel_rfl) (HWY.out _ B1.out.drew) (fun hH0 => ?_)
                refine wpAnyH_take (i := 0) (oi := ⟨some 13, _, _, _, _, _⟩) (v := ?_) rfl (by kernel_rfl) (by kernel_rfl) (by kernel_rfl) (fun _ _ _ h => h) (Or.inl ⟨by kernel_rfl, ?_⟩) hH0 ?_
                rotate_left 1
                · (intro W hSw; (try dsimp only at hSw); go_simp; try with_reducible rfl)
                try simp only [Act.put, List.setIfInBounds_toArray, List.set_cons_zero, List.set_cons_succ]
                refine wpAnyH_take (i := 1) (oi := ⟨some 14, _, _, _, _, _⟩) (v := ?_) rfl (by kernel_rfl) (by kernel_rfl) (by kernel_rfl) (fun _ _ _ h => h) (Or.inl ⟨by kernel_rfl, ?_⟩) hH0 ?_
                rotate_left 1
                · (intro W hSw; (try dsimp only at hSw); go_simp; try with_reducible rfl)
                try simp only [Act.put, List.setIfInBounds_toArray, List.set_cons_zero, List.set_cons_succ]
                refine wpAnyH_take (i := 3) (oi := ⟨some 16, _, _, _, _, _⟩) (v := ?_) rfl (by kernel_rfl) (by kernel_rfl) (by kernel_rfl) (fun _ _ _ h => h) (Or.inl ⟨by kernel_rfl, ?_⟩) hH0 ?_
                rotate_left 1
                · (intro W hSw; (try dsimp only at hSw); go_simp; try with_reducible rfl)
                try simp only [Act.put, List.setIfInBounds_toArray, List.set_cons_zero, List.set_cons_succ]
                refine wpAnyH_take (i := 4) (oi := ⟨some 17, _, _, _, _, _⟩) (v := ?_) rfl (by kernel_rfl) (by kernel_rfl) (by kernel_rfl) (fun _ _ _ h => h) (Or.inl ⟨by kernel_rfl, ?_⟩) hH0 ?_
                rotate_left 1
                · (intro W hSw; (try dsimp only at hSw); go_simp; try with_reducible rfl)
                try simp only [Act.put, List.setIfInBounds_toArray, List.set_cons_zero, List.set_cons_succ]
                refine wpAnyH_ready (rs := [2]) (by kernel_rfl) (by simp) ?_
                refine AllReadyH.cons rfl (fun K hK => ?_) AllReadyH.nil
                · go_simp
                  refine (HFi.out w1.drew B1.out.drew fx fy).mono ?_
                  rintro e w2 ⟨rfl, hb2⟩
                  have B2 := hid (below_of B1.out.drew (by simpa using B1.out.size) hb2)
                  have V2 := hid (below_then ((Below.refl w1.heap.size w1).drew) hb2)
                  clear hb2
                  refine hK.out _ _ (HWY.out w2 B2.out) (fun hH1 => ?_)
                  clear hK K
                  try simp only [Act.put, List.setIfInBounds_toArray, List.set_cons_zero, List.set_cons_succ]
                  refine wpAnyH_ready (rs := [5]) (by kernel_rfl) (by simp) ?_
                  refine AllReadyH.cons rfl (fun K hK => ?_) AllReadyH.nil
                  go_simp
                  refine (HFi.out w2 B2.out tx ty).mono ?_
                  rintro e w3 ⟨rfl, hb3⟩
                  have B3 := hid (below_of B2.out B2.out.size hb3)
                  have V3 := hid (below_then V2.out hb3)
                  clear hb3
                  refine hK.out _ _ (HWY.out w3 B3.out) (fun hH2 => ?_)
                  clear hK K
                  try simp only [Act.put, List.setIfInBounds_toArray, List.set_cons_zero, List.set_cons_succ]
                  refine wpAnyH_take (i := 6) (oi := ⟨some 6, _, _, _, _, _⟩) (v := ?_) rfl (by kernel_rfl) (by kernel_rfl) (by kernel_rfl) (fun _ _ _ h => h) (Or.inl ⟨by kernel_rfl, ?_⟩) hH2 ?_
                  rotate_left 1
                  · (intro W hSw; (try dsimp only at hSw); go_simp; try with_reducible rfl)
                  try simp only [Act.put, List.setIfInBounds_toArray, List.set_cons_zero, List.set_cons_succ]
                  refine wpAnyH_take (i := 7) (oi := ⟨some 7, _, _, _, _, _⟩) (v := ?_) rfl (by kernel_rfl) (by kernel_rfl) (by kernel_rfl) (fun _ _ _ h => h) (Or.inl ⟨by kernel_rfl, ?_⟩) hH2 ?_
                  rotate_left 1
                  · (intro W hSw; (try dsimp only at hSw); go_simp; try with_reducible rfl)
                  try simp only [Act.put, List.setIfInBounds_toArray, List.set_cons_zero, List.set_cons_succ]
                  refine wpAnyH_done (by kernel_rfl) ?_ _
                  go_wp2_with fail
                  go_meet
                  exact ⟨rfl, rfl, V3.out⟩
              case rest =>
                obtain ⟨rfl, rfl, hbc⟩ := hcut
                obtain ⟨w3, hw3⟩ : ∃ W, W = wc := ⟨_, rfl⟩
                subst hw3
                have B3 := hid (below_of B1.out B1.out.size hbc)
                clear hbc y0 y1 y2 y3 y4 y5
                obtain ⟨y0, y1, y2, y3, y4, y5⟩ := HWY.out w3 B3.out
                go_wp2_with (go_at_call 20; refine (HSi.out _ _).mono ?_; rintro e w9 ⟨rfl, rfl⟩)
                refine bodyPost_ret (v := .tuple #[.int .i64 0, .int .i64 2]) (by simp [results, Try.results8, go_sem]) rfl ?_
                exact ⟨by rw [G.out], below_of HB0.out HB0.out.size B3.out⟩
            | true =>
              exfalso
              unfold wayOk at hw
              rw [hs1, hs2, decide_eq_true (show 0 ≤ idxOf (atC fx fy) xs by omega), decide_eq_true (show 0 ≤ idxOf (atC tx ty) xs by omega)] at hw
              cases hw
    | true =>
      have hwk := hw
      unfold wayOk at hw
      simp only [Bool.and_eq_true, decide_eq_true_eq] at hw
      obtain ⟨⟨⟨hF0, hT0⟩, hs1⟩, hs2⟩ := hw
      obtain ⟨f, hf, hfl⟩ := idxOf_lt hF0
      obtain ⟨t, ht, htl⟩ := idxOf_lt hT0
      have hsd := inB_iff.1 hs1
      have hou := inB_iff.1 hs2
      obtain ⟨s, rfl⟩ : ∃ s : Nat, sd = s := ⟨sd.toNat, by omega⟩
      obtain ⟨o, rfl⟩ : ∃ o : Nat, ou = o := ⟨ou.toNat, by omega⟩
      have hs4 : s < 4 := by omega
      have ho4 : o < 4 := by omega
      have G0 : CarriesPushG wi hi xs ⟨fx, fy, s, tx, ty, o⟩ = carryG xs f t s o := by
        unfold CarriesPushG
        rw [if_pos hbk, hwk, if_pos rfl]
        dsimp only
        rw [hf, ht, Int.toNat_natCast, Int.toNat_natCast, Int.toNat_natCast, Int.toNat_natCast]
      have e1 : decide ((f : Int) < 0) = false := by rw [decide_eq_false_iff_not]; omega
      have e2 : decide ((t : Int) < 0) = false := by rw [decide_eq_false_iff_not]; omega
      have hti : (t : Int) < (xs.length : Int) := by omega
      obtain ⟨b1, o1, rfl, hb1', hc1⟩ := h.cells (by omega)
      have ep : xs[t]? = some xs[t] := List.getElem?_eq_getElem htl
      have okt := hB.pc xs[t] (List.getElem_mem htl)
      have HX4 := hid (fun W (hb : Below W0.heap.size W0 W) => (show W.cell? ⟨b1, o1 + t * 5 + 2, none⟩ = some (.int .i8 xs[t].k) ∧ W.cell? ⟨b1, o1 + t * 5 + 3, none⟩ = some (.int .i8 xs[t].t) ∧ W.cell? ⟨b1, o1 + t * 5 + 4, none⟩ = some (.int .i8 xs[t].d) from ⟨cell_on hb (cell_on B0 (hc1 t _ ep 2 _ rfl)), cell_on hb (cell_on B0 (hc1 t _ ep 3 _ rfl)), cell_on hb (cell_on B0 (hc1 t _ ep 4 _ rfl))⟩))
      have Hd := hid (bo_d ep)
      have Hhit := hid (fun r => bo_hit ep r o)
      have Hcan := hid (fun r => bo_can ep r)
      have hfc := fal_can (bo_ok hB) (p := f) (y := t) hs4
      have hfl2 := fal_le (bo_ok hB) (p := f) hs4 t
      have hb2 : big = 1099511627776 := rfl
      obtain ⟨q, hq⟩ : ∃ q, xs[t] = q := ⟨_, rfl⟩
      rw [hq] at okt HX4 Hd Hhit Hcan
      have HCG := hid (show carryG xs f t s o = if Fal (boOf xs) (one1 f s) t < big ∧ (boOf xs).hit t (Fal (boOf xs) (one1 f s) t % 4) o = true then (((Fal (boOf xs) (one1 f s) t / 4 + (boOf xs).d t : Nat) : Int), 0) else (0, 6) from rfl)
      have HSt := hid (fun W (hb : Below W0.heap.size W0 W) => stage_I w.heap.size wi hi (some ⟨b1, o1, none⟩) c xs W (HBD.out W hb).1 (HBD.out W hb).2 hn hB.pc hB.one)
      have hBh := hid hB
      obtain ⟨v, hv⟩ : ∃ v, Fal (boOf xs) (one1 f s) t = v := ⟨_, rfl⟩
      rw [hv] at hfc hfl2 HCG
      have HV := hid hv
      have HFf := hid (fun W (hb : Below W0.heap.size W0 W) => HFi.out W hb fx fy)
      have HFt := hid (fun W (hb : Below W0.heap.size W0 W) => HFi.out W hb tx ty)
      clear hv ep hq hF0 hT0 hbd h B0 hc1 HFi hwk hbk
      rw [hf] at HFf
      rw [ht] at HFt
      have e3 : inB (s : Int) 0 3 = true := hs1
      have e4 : inB (o : Int) 0 3 = true := hs2
      clear hf ht
      by_cases hvb : v < big
      · have hcv := hfc hvb
        have hr4 : v % 4 < 4 := Nat.mod_lt _ (by omega)
        have HT4 := hid (keyT_lt hvb)
        have HS4 := hid (keyS_lt hvb)
        have hqb : v / 4 < big := by omega
        obtain ⟨d, hd⟩ : ∃ d : Nat, q.d = d := ⟨q.d.toNat, by omega⟩
        have hd9 : 1 ≤ d ∧ d ≤ 9 := by omega
        rw [hd] at HX4 Hd
        rw [Int.toNat_natCast] at Hd
        have hwd : IntKind.i64.wrap (d : Int) = (d : Int) := IntWalk.i64_in _ (by omega)
        have hwt : IntKind.i64.wrap (((v / 4 : Nat) : Int) + (d : Int)) = ((v / 4 : Nat) : Int) + (d : Int) := IntWalk.i64_in _ (by omega)
        generalize v % 4 = r at *
        generalize v / 4 = u at *
        rw [Hd.out] at HCG
        have HCV := hid hcv
        have HVB := hid hvb
        have hu1 : ((u : Int) == (-1)) = false := by rw [beq_eq_false_iff_ne]; omega
        have hri : (r : Int) < 4 := by omega
        clear hcv hfc hb2 hvb
        go_enter Try.func8, Try.ntmps8
        go_upto_region 1 with fail
        rw [← hW0]
        clear hW0
        go_wp2_with fail
        refine HOk.out.mono ?_
        rintro e w1 ⟨rfl, hb1⟩
        have B1 := hid hb1
        obtain ⟨y0, y1, y2, y3, y4, y5⟩ := HWY.out w1 hb1
        clear hb1
        go_wp2_with fail
        go_cut [6, 7] from 13 to 18 (fun s6 s7 wx => s6 = .int .i64 (f : Int) ∧ s7 = .int .i64 (t : Int) ∧ Below w1.heap.size w1 wx)
        case first =>
          refine wp_region_held_drew (S := fun W => W.cell? ⟨w.heap.size + 1, 0, none⟩ = some (.int .i8 fx) ∧ W.cell? ⟨w.heap.size + 1, 1, none⟩ = some (.int .i8 fy) ∧ W.cell? ⟨w.heap.size + 1, 2, none⟩ = some (.int .i8 (s : Int)) ∧ W.cell? ⟨w.heap.size + 1, 3, none⟩ = some (.int .i8 tx) ∧ W.cell? ⟨w.heap.size + 1, 4, none⟩ = some (.int .i8 ty) ∧ W.cell? ⟨w.heap.size + 1, 5, none⟩ = some (.int .i8 (o : Int))) (by kernel_rfl) (HWY.out _ B1.out.drew) (fun hH0 => ?_)
          refine wpAnyH_take (i := 0) (oi := ⟨some 13, _, _, _, _, _⟩) (v := ?_) rfl (by kernel_rfl) (by kernel_rfl) (by kernel_rfl) (fun _ _ _ h => h) (Or.inl ⟨by kernel_rfl, ?_⟩) hH0 ?_
          rotate_left 1
          · (intro W hSw; (try dsimp only at hSw); go_simp; try with_reducible rfl)
          try simp only [Act.put, List.setIfInBounds_toArray, List.set_cons_zero, List.set_cons_succ]
          refine wpAnyH_take (i := 1) (oi := ⟨some 14, _, _, _, _, _⟩) (v := ?_) rfl (by kernel_rfl) (by kernel_rfl) (by kernel_rfl) (fun _ _ _ h => h) (Or.inl ⟨by kernel_rfl, ?_⟩) hH0 ?_
          rotate_left 1
          · (intro W hSw; (try dsimp only at hSw); go_simp; try with_reducible rfl)
          try simp only [Act.put, List.setIfInBounds_toArray, List.set_cons_zero, List.set_cons_succ]
          refine wpAnyH_take (i := 3) (oi := ⟨some 16, _, _, _, _, _⟩) (v := ?_) rfl (by kernel_rfl) (by kernel_rfl) (by kernel_rfl) (fun _ _ _ h => h) (Or.inl ⟨by kernel_rfl, ?_⟩) hH0 ?_
          rotate_left 1
          · (intro W hSw; (try dsimp only at hSw); go_simp; try with_reducible rfl)
          try simp only [Act.put, List.setIfInBounds_toArray, List.set_cons_zero, List.set_cons_succ]
          refine wpAnyH_take (i := 4) (oi := ⟨some 17, _, _, _, _, _⟩) (v := ?_) rfl (by kernel_rfl) (by kernel_rfl) (by kernel_rfl) (fun _ _ _ h => h) (Or.inl ⟨by kernel_rfl, ?_⟩) hH0 ?_
          rotate_left 1
          · (intro W hSw; (try dsimp only at hSw); go_simp; try with_reducible rfl)
          try simp only [Act.put, List.setIfInBounds_toArray, List.set_cons_zero, List.set_cons_succ]
          refine wpAnyH_ready (rs := [2]) (by kernel_rfl) (by simp) ?_
          refine AllReadyH.cons rfl (fun K hK => ?_) AllReadyH.nil
          · go_simp
            refine (HFf.out w1.drew B1.out.drew).mono ?_
            rintro e w2 ⟨rfl, hb2⟩
            have B2 := hid (below_of B1.out.drew (by simpa using B1.out.size) hb2)
            have V2 := hid (below_then ((Below.refl w1.heap.size w1).drew) hb2)
            clear hb2
            refine hK.out _ _ (HWY.out w2 B2.out) (fun hH1 => ?_)
            clear hK K
            try simp only [Act.put, List.setIfInBounds_toArray, List.set_cons_zero, List.set_cons_succ]
            refine wpAnyH_ready (rs := [5]) (by kernel_rfl) (by simp) ?_
            refine AllReadyH.cons rfl (fun K hK => ?_) AllReadyH.nil
            go_simp
            refine (HFt.out w2 B2.out).mono ?_
            rintro e w3 ⟨rfl, hb3⟩
            have B3 := hid (below_of B2.out B2.out.size hb3)
            have V3 := hid (below_then V2.out hb3)
            clear hb3
            refine hK.out _ _ (HWY.out w3 B3.out) (fun hH2 => ?_)
            clear hK K
            try simp only [Act.put, List.setIfInBounds_toArray, List.set_cons_zero, List.set_cons_succ]
            refine wpAnyH_take (i := 6) (oi := ⟨some 6, _, _, _, _, _⟩) (v := ?_) rfl (by kernel_rfl) (by kernel_rfl) (by kernel_rfl) (fun _ _ _ h => h) (Or.inl ⟨by kernel_rfl, ?_⟩) hH2 ?_
            rotate_left 1
            · (intro W hSw; (try dsimp only at hSw); go_simp; try with_reducible rfl)
            try simp only [Act.put, List.setIfInBounds_toArray, List.set_cons_zero, List.set_cons_succ]
            refine wpAnyH_take (i := 7) (oi := ⟨some 7, _, _, _, _, _⟩) (v := ?_) rfl (by kernel_rfl) (by kernel_rfl) (by kernel_rfl) (fun _ _ _ h => h) (Or.inl ⟨by kernel_rfl, ?_⟩) hH2 ?_
            rotate_left 1
            · (intro W hSw; (try dsimp only at hSw); go_simp; try with_reducible rfl)
            try simp only [Act.put, List.setIfInBounds_toArray, List.set_cons_zero, List.set_cons_succ]
            refine wpAnyH_done (by kernel_rfl) ?_ _
            go_wp2_with fail
            go_meet
            exact ⟨rfl, rfl, V3.out⟩
        case rest =>
          obtain ⟨rfl, rfl, hbc⟩ := hcut
          obtain ⟨w3, hw3⟩ : ∃ W, W = wc := ⟨_, rfl⟩
          subst hw3
          have B3 := hid (below_of B1.out B1.out.size hbc)
          clear hbc y0 y1 y2 y3 y4 y5
          obtain ⟨y0, y1, y2, y3, y4, y5⟩ := HWY.out w3 B3.out
          go_wp2_with (go_at_call 20; refine (HSi.out _ _).mono ?_; rintro e w9 ⟨rfl, rfl⟩)
          refine (HSt.out w3 B3.out).mono ?_
          rintro e w4 ⟨T, rfl, hb4, hTx, _, _, hst⟩
          have B4 := hid (below_of B3.out B3.out.size hb4)
          have hstl : T.xs.length = xs.length := by rw [hTx]
          obtain ⟨W5, hW5⟩ : ∃ W, W = w4.alloc (.cells #[.int .i64 0, .int .i64 (f : Int), .int .i64 (s : Int), .int .i64 (-1)] 64) := ⟨_, rfl⟩
          have b5 : Below w4.heap.size w4 W5 := by rw [hW5]; exact (Below.refl _ _).alloc (Nat.le_refl _) _
          have hrn := run_I W5 T (hst.below b5) (by rw [hTx]; exact hBh.out) (some ⟨w4.heap.size, 0, none⟩) 1 [⟨0, (f : Nat), (s : Nat), -1⟩] (by rw [hW5]; exact sla_one (q := ⟨0, (f : Nat), (s : Nat), -1⟩) _) (by simp) (one1 f s) (by rw [hTx]; exact one_psh hfl hs4)
          rw [hTx] at hrn
          have HRun := hid hrn
          have B5 := hid (below_of B4.out B4.out.size b5)
          have HST := hid (hst.below b5)
          have HTX := hid hTx
          obtain ⟨y0, y1, y2, y3, y4, y5⟩ := HWY.out w4 B4.out
          clear hb4 hst hrn b5 hstl hTx
          go_wp2_with fail
          rw [← hW5]
          clear hW5 y0 y1 y2 y3 y4 y5
          refine HRun.out.mono ?_
          rintro e w6 ⟨g, c6, rfl, hb6, hg6, hf6⟩
          have B6 := hid (below_of B5.out B5.out.size hb6)
          have f0 := hf6.c0 t htl
          have f1 := hf6.c1 t htl
          obtain ⟨bb, f2⟩ := hf6.c2 t htl
          have HST6 := hid (HST.out.below hb6)
          clear hb6 hf6
          rw [HV.out, HT4.out] at f0
          rw [HV.out, HS4.out] at f1
          obtain ⟨W7, hW7⟩ : ∃ W, W = w6.alloc (.cells #[.int .i64 (u : Int), .int .i8 (r : Int), .int .i64 bb] 53) := ⟨_, rfl⟩
          have b7 : Below w6.heap.size w6 W7 := by rw [hW7]; exact (Below.refl _ _).alloc (Nat.le_refl _) _
          have n0 : W7.cell? ⟨w6.heap.size, 0, none⟩ = some (.int .i64 (u : Int)) := by rw [hW7]; simp [go_sem]
          have n1 : W7.cell? ⟨w6.heap.size, 1, none⟩ = some (.int .i8 (r : Int)) := by rw [hW7]; simp [go_sem]
          have B7 := hid (below_of B6.out B6.out.size b7)
          obtain ⟨y0, y1, y2, y3, y4, y5⟩ := HWY.out W7 B7.out
          obtain ⟨ab, ao, hb, ho, pb, po, cb, co, mv, cv, dv, hRd, hhit, hmv, hcan, hcv, hdv, hdd⟩ := rdr_of (HST6.out.below b7) (by rw [HTX.out]; exact hBh.out) (by rw [HTX.out]; exact htl) hr4 (p := t)
          rw [HTX.out] at hhit
          have h2' := hRd.s2
          rw [HTX.out] at h2'
          have hcc := hRd.hc
          have HHa := hid (fun W => has_Z mv o W hmv ho4)
          rw [← hhit o ho4 HCV.out] at HHa
          have c7 := (HBD.out W7 B7.out).1.c2
          obtain ⟨k2, k3, k4⟩ := HX4.out W7 B7.out
          clear b7 hRd hhit hcan hcv hdv hdd
          cases hht : (boOf xs).hit t r o with
          | false =>
            rw [hht] at HHa HCG
            have G := hid (show CarriesPushG wi hi xs ⟨fx, fy, s, tx, ty, o⟩ = (0, 6) by rw [G0, HCG.out, if_neg (by simp)])
            clear G0 HCG hht
            go_wp2_with fail
            rw [← hW7]
            clear hW7 f0 f1 f2
            go_quiet ((go_at_call 23; exact quiet_eqS (HHa.out _)))
            go_wp2_with fail
            refine bodyPost_ret (v := .tuple #[.int .i64 0, .int .i64 6]) (by simp [results, Try.results8, go_sem]) rfl ?_
            exact ⟨by rw [G.out], below_of HB0.out HB0.out.size (below_drewN B7.out _)⟩
          | true =>
            rw [hht] at HHa HCG
            have G := hid (show CarriesPushG wi hi xs ⟨fx, fy, s, tx, ty, o⟩ = (((u + d : Nat) : Int), 0) by rw [G0, HCG.out, if_pos ⟨HVB.out, rfl⟩])
            have hcast : ((u + d : Nat) : Int) = (u : Int) + (d : Int) := by omega
            rw [hcast] at G
            clear G0 HCG hht hcast
            go_wp2_with fail
            rw [← hW7]
            clear hW7 f0 f1 f2
            go_quiet ((go_at_call 23; exact quiet_eqS (HHa.out _)))
            go_wp2_with fail
            go_quiet (fail)
            go_wp2_with fail
            refine bodyPost_ret (v := .tuple #[.int .i64 ((u : Int) + (d : Int)), .int .i64 0]) (by simp [results, Try.results8, go_sem]) rfl ?_
            exact ⟨by rw [G.out], below_of HB0.out HB0.out.size (by first | exact below_drewN (below_drewN B7.out _) _ | exact below_drewN B7.out _)⟩
      · have hve : v = big := by omega
        have G := hid (show CarriesPushG wi hi xs ⟨fx, fy, s, tx, ty, o⟩ = (0, 6) by rw [G0, HCG.out, if_neg (fun h => hvb h.1)])
        have HVE := hid hve
        clear G0 HCG hfc hb2 hve hvb hfl2
        go_enter Try.func8, Try.ntmps8
        go_upto_region 1 with fail
        rw [← hW0]
        clear hW0
        go_wp2_with fail
        refine HOk.out.mono ?_
        rintro e w1 ⟨rfl, hb1⟩
        have B1 := hid hb1
        obtain ⟨y0, y1, y2, y3, y4, y5⟩ := HWY.out w1 hb1
        clear hb1
        go_wp2_with fail
        go_cut [6, 7] from 13 to 18 (fun s6 s7 wx => s6 = .int .i64 (f : Int) ∧ s7 = .int .i64 (t : Int) ∧ Below w1.heap.size w1 wx)
        case first =>
          refine wp_region_held_drew (S := fun W => W.cell? ⟨w.heap.size + 1, 0, none⟩ = some (.int .i8 fx) ∧ W.cell? ⟨w.heap.size + 1, 1, none⟩ = some (.int .i8 fy) ∧ W.cell? ⟨w.heap.size + 1, 2, none⟩ = some (.int .i8 (s : Int)) ∧ W.cell? ⟨w.heap.size + 1, 3, none⟩ = some (.int .i8 tx) ∧ W.cell? ⟨w.heap.size + 1, 4, none⟩ = some (.int .i8 ty) ∧ W.cell? ⟨w.heap.size + 1, 5, none⟩ = some (.int .i8 (o : Int))) (by kernel_rfl) (HWY.out _ B1.out.drew) (fun hH0 => ?_)
          refine wpAnyH_take (i := 0) (oi := ⟨some 13, _, _, _, _, _⟩) (v := ?_) rfl (by kernel_rfl) (by kernel_rfl) (by kernel_rfl) (fun _ _ _ h => h) (Or.inl ⟨by kernel_rfl, ?_⟩) hH0 ?_
          rotate_left 1
          · (intro W hSw; (try dsimp only at hSw); go_simp; try with_reducible rfl)
          try simp only [Act.put, List.setIfInBounds_toArray, List.set_cons_zero, List.set_cons_succ]
          refine wpAnyH_take (i := 1) (oi := ⟨some 14, _, _, _, _, _⟩) (v := ?_) rfl (by kernel_rfl) (by kernel_rfl) (by kernel_rfl) (fun _ _ _ h => h) (Or.inl ⟨by kernel_rfl, ?_⟩) hH0 ?_
          rotate_left 1
          · (intro W hSw; (try dsimp only at hSw); go_simp; try with_reducible rfl)
          try simp only [Act.put, List.setIfInBounds_toArray, List.set_cons_zero, List.set_cons_succ]
          refine wpAnyH_take (i := 3) (oi := ⟨some 16, _, _, _, _, _⟩) (v := ?_) rfl (by kernel_rfl) (by kernel_rfl) (by kernel_rfl) (fun _ _ _ h => h) (Or.inl ⟨by kernel_rfl, ?_⟩) hH0 ?_
          rotate_left 1
          · (intro W hSw; (try dsimp only at hSw); go_simp; try with_reducible rfl)
          try simp only [Act.put, List.setIfInBounds_toArray, List.set_cons_zero, List.set_cons_succ]
          refine wpAnyH_take (i := 4) (oi := ⟨some 17, _, _, _, _, _⟩) (v := ?_) rfl (by kernel_rfl) (by kernel_rfl) (by kernel_rfl) (fun _ _ _ h => h) (Or.inl ⟨by kernel_rfl, ?_⟩) hH0 ?_
          rotate_left 1
          · (intro W hSw; (try dsimp only at hSw); go_simp; try with_reducible rfl)
          try simp only [Act.put, List.setIfInBounds_toArray, List.set_cons_zero, List.set_cons_succ]
          refine wpAnyH_ready (rs := [2]) (by kernel_rfl) (by simp) ?_
          refine AllReadyH.cons rfl (fun K hK => ?_) AllReadyH.nil
          · go_simp
            refine (HFf.out w1.drew B1.out.drew).mono ?_
            rintro e w2 ⟨rfl, hb2⟩
            have B2 := hid (below_of B1.out.drew (by simpa using B1.out.size) hb2)
            have V2 := hid (below_then ((Below.refl w1.heap.size w1).drew) hb2)
            clear hb2
            refine hK.out _ _ (HWY.out w2 B2.out) (fun hH1 => ?_)
            clear hK K
            try simp only [Act.put, List.setIfInBounds_toArray, List.set_cons_zero, List.set_cons_succ]
            refine wpAnyH_ready (rs := [5]) (by kernel_rfl) (by simp) ?_
            refine AllReadyH.cons rfl (fun K hK => ?_) AllReadyH.nil
            go_simp
            refine (HFt.out w2 B2.out).mono ?_
            rintro e w3 ⟨rfl, hb3⟩
            have B3 := hid (below_of B2.out B2.out.size hb3)
            have V3 := hid (below_then V2.out hb3)
            clear hb3
            refine hK.out _ _ (HWY.out w3 B3.out) (fun hH2 => ?_)
            clear hK K
            try simp only [Act.put, List.setIfInBounds_toArray, List.set_cons_zero, List.set_cons_succ]
            refine wpAnyH_take (i := 6) (oi := ⟨some 6, _, _, _, _, _⟩) (v := ?_) rfl (by kernel_rfl) (by kernel_rfl) (by kernel_rfl) (fun _ _ _ h => h) (Or.inl ⟨by kernel_rfl, ?_⟩) hH2 ?_
            rotate_left 1
            · (intro W hSw; (try dsimp only at hSw); go_simp; try with_reducible rfl)
            try simp only [Act.put, List.setIfInBounds_toArray, List.set_cons_zero, List.set_cons_succ]
            refine wpAnyH_take (i := 7) (oi := ⟨some 7, _, _, _, _, _⟩) (v := ?_) rfl (by kernel_rfl) (by kernel_rfl) (by kernel_rfl) (fun _ _ _ h => h) (Or.inl ⟨by kernel_rfl, ?_⟩) hH2 ?_
            rotate_left 1
            · (intro W hSw; (try dsimp only at hSw); go_simp; try with_reducible rfl)
            try simp only [Act.put, List.setIfInBounds_toArray, List.set_cons_zero, List.set_cons_succ]
            refine wpAnyH_done (by kernel_rfl) ?_ _
            go_wp2_with fail
            go_meet
            exact ⟨rfl, rfl, V3.out⟩
        case rest =>
          obtain ⟨rfl, rfl, hbc⟩ := hcut
          obtain ⟨w3, hw3⟩ : ∃ W, W = wc := ⟨_, rfl⟩
          subst hw3
          have B3 := hid (below_of B1.out B1.out.size hbc)
          clear hbc y0 y1 y2 y3 y4 y5
          obtain ⟨y0, y1, y2, y3, y4, y5⟩ := HWY.out w3 B3.out
          go_wp2_with (go_at_call 20; refine (HSi.out _ _).mono ?_; rintro e w9 ⟨rfl, rfl⟩)
          refine (HSt.out w3 B3.out).mono ?_
          rintro e w4 ⟨T, rfl, hb4, hTx, _, _, hst⟩
          have B4 := hid (below_of B3.out B3.out.size hb4)
          have hstl : T.xs.length = xs.length := by rw [hTx]
          obtain ⟨W5, hW5⟩ : ∃ W, W = w4.alloc (.cells #[.int .i64 0, .int .i64 (f : Int), .int .i64 (s : Int), .int .i64 (-1)] 64) := ⟨_, rfl⟩
          have b5 : Below w4.heap.size w4 W5 := by rw [hW5]; exact (Below.refl _ _).alloc (Nat.le_refl _) _
          have hrn := run_I W5 T (hst.below b5) (by rw [hTx]; exact hBh.out) (some ⟨w4.heap.size, 0, none⟩) 1 [⟨0, (f : Nat), (s : Nat), -1⟩] (by rw [hW5]; exact sla_one (q := ⟨0, (f : Nat), (s : Nat), -1⟩) _) (by simp) (one1 f s) (by rw [hTx]; exact one_psh hfl hs4)
          rw [hTx] at hrn
          have HRun := hid hrn
          have B5 := hid (below_of B4.out B4.out.size b5)
          have HST := hid (hst.below b5)
          have HTX := hid hTx
          obtain ⟨y0, y1, y2, y3, y4, y5⟩ := HWY.out w4 B4.out
          clear hb4 hst hrn b5 hstl hTx
          go_wp2_with fail
          rw [← hW5]
          clear hW5 y0 y1 y2 y3 y4 y5
          refine HRun.out.mono ?_
          rintro e w6 ⟨g, c6, rfl, hb6, hg6, hf6⟩
          have B6 := hid (below_of B5.out B5.out.size hb6)
          have f0 := hf6.c0 t htl
          have f1 := hf6.c1 t htl
          obtain ⟨bb, f2⟩ := hf6.c2 t htl
          have HST6 := hid (HST.out.below hb6)
          clear hb6 hf6
          rw [HV.out, HVE.out, keyT_big] at f0
          rw [HV.out, HVE.out, keyS_big] at f1
          obtain ⟨W7, hW7⟩ : ∃ W, W = w6.alloc (.cells #[.int .i64 (-1), .int .i8 0, .int .i64 bb] 53) := ⟨_, rfl⟩
          have b7 : Below w6.heap.size w6 W7 := by rw [hW7]; exact (Below.refl _ _).alloc (Nat.le_refl _) _
          have n0 : W7.cell? ⟨w6.heap.size, 0, none⟩ = some (.int .i64 (-1)) := by rw [hW7]; simp [go_sem]
          have n1 : W7.cell? ⟨w6.heap.size, 1, none⟩ = some (.int .i8 0) := by rw [hW7]; simp [go_sem]
          have B7 := hid (below_of B6.out B6.out.size b7)
          obtain ⟨y0, y1, y2, y3, y4, y5⟩ := HWY.out W7 B7.out
          clear b7
          go_wp2_with fail
          rw [← hW7]
          clear hW7 f0 f1 f2
          go_quiet (fail)
          go_wp2_with fail
          refine bodyPost_ret (v := .tuple #[.int .i64 0, .int .i64 6]) (by simp [results, Try.results8, go_sem]) rfl ?_
          exact ⟨by rw [G.out], below_of HB0.out HB0.out.size (below_drewN B7.out _)⟩
end Go.Proofs.Ytdpheplbbenanaa
