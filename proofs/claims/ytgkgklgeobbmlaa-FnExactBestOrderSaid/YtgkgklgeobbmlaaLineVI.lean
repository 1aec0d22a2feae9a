/-
  The pieces of a line, the program's: all of them.
  Conditions: the cells are those of a line.
-/
import Derived.Test.YtgkgklgeobbmlaaLineV
import Derived.Test.YtgkgklgeobbmlaaLineB
namespace Go.Proofs.Ytgkgklgeobbmlaa
open Go.RowKit
set_option linter.unusedSimpArgs false
set_option linter.unusedVariables false

set_option maxRecDepth 100000 in
set_option maxHeartbeats 16000000 in
theorem linePieces_I (A : Option Addr) (cA n : Nat) (P : List Ce) (side out : Int) (w : World) (hL : LineOk P side out) (hn : n = P.length) (hn2 : n ≤ 1000) (hcap : n ≤ cA) (hpath : pathB P = true) (h : SlA Ce.enc 2 w A P) (hr : ∀ p ∈ P, (0 ≤ p.x ∧ p.x ≤ 23) ∧ (0 ≤ p.y ∧ p.y ≤ 23)) :
    Calls Try.prog 73 #[.slice A n cA, .int .i64 side, .int .i64 out] w fun e w' => ∃ A' c', e = .returned (.tuple #[.slice A' n c', .int .i64 0]) ∧ Below w.heap.size w w' ∧ w'.ownsRow w.heap.size 98 5 (.slice A' n c') n ((lineL P side out).flatMap Pc.enc) := by
  have hn0 := hL.n
  obtain ⟨ab, ao, rfl, hab, hcs⟩ := h.cells hn0
  have HC := hid (fun W (hW : Below w.heap.size w W) i p (hp : P[i]? = some p) => (⟨cell_on hW (ce_at (a := none) hcs hp).1, cell_on hW (ce_at (a := none) hcs hp).2⟩ : W.cell? ⟨ab, ao + i * 2, none⟩ = some (.int .i8 p.x) ∧ W.cell? ⟨ab, ao + i * 2 + 1, none⟩ = some (.int .i8 p.y)))
  have HS := hid (fun i (hi : i < n) => hL.sides (i := i) (by omega))
  have HN := hid hn
  have HR := hid hr
  have HLn := hid (show ∀ i, i < n → ((List.range (i + 1)).map (linePc P side out)).flatMap Pc.enc = ((List.range i).map (linePc P side out)).flatMap Pc.enc ++ (linePc P side out i).enc from fun i hi => lineL_at P side out (by omega))
  have HAll := hid (show lineL P side out = (List.range n).map (linePc P side out) by unfold lineL; rw [hn])
  have HPath := hid (isPath_I (some ⟨ab, ao, none⟩) cA P w h (by omega) (fun p hp => by have := hr p hp; exact ⟨by omega, by omega, by omega, by omega⟩))
  rw [hpath, ← hn] at HPath
  have hsd := hL.sd
  have hot := hL.ot
  have HS1 := hid (fun W => side_I side W)
  have HS2 := hid (fun W => side_I out W)
  rw [inB_it.2 hsd] at HS1
  rw [inB_it.2 hot] at HS2
  clear hL h hcs hr hn0 hn hpath
  go_enter Try.func73, Try.ntmps73
  go_wp2_with fail
  refine HPath.out.mono ?_
  rintro e w1 ⟨rfl, hb1⟩
  have HB1 := hid hb1
  clear hb1
  go_wp2_with fail
  refine (HS1.out w1).mono ?_
  rintro e w1' ⟨rfl, rfl⟩
  go_wp2_with fail
  refine (HS2.out w1).mono ?_
  rintro e w1' ⟨rfl, rfl⟩
  go_wp2_with fail
  go_loopw [8, 29] (fun ov iv wr => ∃ (i : Nat) (B : Option Addr) (cB : Nat), i ≤ n ∧ iv = .int .i64 i ∧ ov = .slice B i cB ∧ wr.ownsRow w.heap.size 98 5 (.slice B i cB) i (((List.range i).map (linePc P side out)).flatMap Pc.enc) ∧ Below w.heap.size w wr) (fun _ iv _ => n - (intOf iv).toNat)
  case atStart => exact ⟨0, _, _, Nat.zero_le _, rfl, rfl, by simpa using World.ownsRow_lit w1 #[] 0 HB1.out.size (by simp [maxLen]) (by simp), below_of HB1.out HB1.out.size ((Below.refl _ _).alloc (Nat.le_refl _) _)⟩
  case round =>
    obtain ⟨i, B, cB, hi', rfl, rfl, own, hbl⟩ := hrel
    by_cases hlt : i < n
    · have hd : decide ((i : Int) < (n : Int)) = true := by rw [decide_eq_true_iff]; omega
      have hii : (i : Int) < (n : Int) := by omega
      obtain ⟨q, hq⟩ : ∃ q, P[i]? = some q := ⟨_, List.getElem?_eq_getElem (by rw [← HN.out]; exact hlt)⟩
      obtain ⟨k, hk⟩ : ∃ k, i + 1 = k := ⟨_, rfl⟩
      have wk : IntKind.i64.wrap ((i : Int) + 1) = (k : Int) := by rw [show (i : Int) + 1 = (k : Int) by omega]; exact IntWalk.i64_in _ (by omega)
      have HOw := hid own
      have HBl := hid hbl
      obtain ⟨f0, f1⟩ := HC.out wr hbl i q hq
      obtain ⟨hsf, hst, hsn⟩ := HS.out i hlt
      have HPc := hid (show linePc P side out i = pieceP q (fromW P side i) (toW P out i) by unfold linePc; rw [getD_of hq])
      have hqr := HR.out q (List.mem_of_getElem? hq)
      have HLi := hid (HLn.out i hlt)
      rw [hk, HPc.out] at HLi
      have HK := hid hk
      have hqr2 : -100 ≤ q.x ∧ q.x ≤ 100 ∧ -100 ≤ q.y ∧ q.y ≤ 100 := by omega
      have hfw0 : i = 0 → fromW P side i = side := fun h => by subst h; rfl
      have hfw1 : ∀ j p, i = j + 1 → P[j]? = some p → sideG q.x q.y p.x p.y = fromW P side i := fun j p h hp => by
        subst h
        show _ = sideG (P.getD (j + 1) ⟨0, 0⟩).x (P.getD (j + 1) ⟨0, 0⟩).y (P.getD j ⟨0, 0⟩).x (P.getD j ⟨0, 0⟩).y
        rw [getD_of hq, getD_of hp]
      have htw0 : ¬ k < n → toW P out i = out := fun h => by unfold toW; rw [if_neg (by rw [← HN.out]; omega)]
      have htw1 : ∀ p, k < n → P[k]? = some p → sideG q.x q.y p.x p.y = toW P out i := fun p h hp => by
        unfold toW
        rw [if_pos (by rw [← HN.out]; omega), getD_of hq, hk, getD_of hp]
      have HF0 := hid hfw0
      have HF1 := hid hfw1
      have HT0 := hid htw0
      have HT1 := hid htw1
      have HPq := hid (show (pieceP q (fromW P side i) (toW P out i)).enc = [.int .i8 q.x, .int .i8 q.y, .int .i8 (kindP (fromW P side i) (toW P out i)), .int .i8 (turnP (fromW P side i) (toW P out i) : Nat), .int .i8 1] from rfl)
      have HPS := hid (fun W => between_I q.x q.y (fromW P side i) (toW P out i).toNat W hsf (by omega) (by rw [Int.toNat_of_nonneg hst.1]; exact hsn))
      have hsn2 : (fromW P side i == toW P out i) = false := by simpa using hsn
      rw [Int.toNat_of_nonneg hst.1] at HPS
      generalize fromW P side i = fr at *
      generalize toW P out i = tt at *
      generalize (List.range i).map (linePc P side out) = L at *
      obtain ⟨V, hV⟩ : ∃ V, V = (wr.alloc (Obj.cells #[.int .i8 q.x, .int .i8 q.y] 36)) := ⟨_, rfl⟩
      have hAl : Below wr.heap.size wr V := by rw [hV]; exact (Below.refl _ _).alloc (Nat.le_refl _) _
      have HOw := hid (own_step HOw.out hAl)
      have HBl := hid (below_of HBl.out HBl.out.size hAl)
      have HTb := hid (show V.cell? ⟨wr.heap.size, 0, none⟩ = some (.int .i8 q.x) ∧ V.cell? ⟨wr.heap.size, 1, none⟩ = some (.int .i8 q.y) ∧ wr.heap.size < V.heap.size from ⟨by rw [hV]; simp, by rw [hV]; simp, by rw [hV]; simp⟩)
      have HV := hid hV
      clear hV
      obtain ⟨t0, t1, t2⟩ := HTb.out
      clear HTb
      clear own hbl hsn hfw0 hfw1 htw0 htw1 hk hAl
      rcases Nat.eq_zero_or_pos i with h0 | h0
      · have hd2 : decide ((0 : Int) < (i : Int)) = false := by rw [decide_eq_false_iff_not]; omega
        have hd9 : decide (0 < i) = false := by rw [decide_eq_false_iff_not]; omega
        have hff := HF0.out h0
        subst hff
        clear h0
        by_cases hkn : k < n
        · obtain ⟨pn, hpn⟩ : ∃ pn, P[k]? = some pn := ⟨_, List.getElem?_eq_getElem (by rw [← HN.out]; exact hkn)⟩
          have hd3 : decide ((k : Int) < (n : Int)) = true := by rw [decide_eq_true_iff]; omega
          have hki : (k : Int) < (n : Int) := by omega
          obtain ⟨g0, g1⟩ := HC.out V HBl.out k pn hpn
          have hsd := HT1.out pn hkn hpn
          have HSd := hid (fun (X : Later V) => toward_I q.x q.y pn.x pn.y X.w hqr2)
          rw [hsd] at HSd
          have hL := @later_cell V
          have hal : ab < V.heap.size := Nat.lt_of_lt_of_le hab HBl.out.size
          clear hpn hsd
          go_wp2_with fail
          (try rw [← HV.out])
          refine wp_region_later (by kernel_rfl) (by kernel_rfl) ?_
          repeat (first | go_big_quiet_skip | (go_big_quiet_want; go_big_quiet_op; first | go_big_quiet_on | (apply Exists.intro; refine ⟨fun _ => ?_, ?_⟩; (go_at_call 100; with_reducible exact quiet_later (HSd.out _)); go_big_quiet_on)))
          refine wpQuiet_nil ?_
          rintro ⟨w5, hbn⟩
          dsimp only
          have HOw := hid (own_step HOw.out hbn)
          have HBl := hid (below_of HBl.out HBl.out.size hbn)
          have t0 := cell_on hbn t0
          have t1 := cell_on hbn t1
          have t2 := Nat.lt_of_lt_of_le t2 hbn.size
          clear hbn hL g0 g1 f0 f1
          obtain ⟨f0, f1⟩ := HC.out w5 HBl.out i q hq
          clear hal
          have HPw := hid (HPS.out w5)
          go_wp2_with fail
          (try rw [← HV.out])
          refine HPw.out.mono ?_
          rintro e6 w6 ⟨rfl, hb6⟩
          have HOw := hid (own_step HOw.out hb6)
          have HBl := hid (below_of HBl.out HBl.out.size hb6)
          have hz6 := HBl.out.size
          clear hb6 f0 f1
          go_wp2_with (at_builtin; refine app_one (w := w6) 30 98 (.agg Pc.z.enc.toArray) 5 5 Try.underlying30 (by kernel_rfl) rfl (by decide) w.heap.size _ i _ HOw.out ?d1 (by decide) hz6 [.int .i8 q.x, .int .i8 q.y, .int .i8 (kindP fr tt), .int .i8 (turnP fr tt : Nat), .int .i8 1] _ _ rfl rfl rfl _ rfl ?d3 rfl (by intro u hu; simp at hu; rcases hu with rfl | rfl | rfl | rfl | rfl <;> rfl) ?_)
          case d1 => omega
          case d3 => rfl
          intro A7 c7 w7 own7 hb7 hg7 hat7
          have HO7 := hid own7
          have HB7 := hid (HBl.out.trans hb7)
          clear own7 hb7 hg7 hat7
          go_wp2_with fail
          have hk := HK.out
          subst hk
          exact ⟨⟨i + 1, A7, c7, by omega, by go_num, rfl, by rw [HLi.out, HPq.out]; exact HO7.out, HB7.out⟩, by simp [intOf]; omega⟩
        · have hd3 : decide ((k : Int) < (n : Int)) = false := by rw [decide_eq_false_iff_not]; omega
          have htt := HT0.out hkn
          subst htt
          have HPw := hid (HPS.out V)
          go_wp2_with fail
          (try rw [← HV.out])
          refine HPw.out.mono ?_
          rintro e6 w6 ⟨rfl, hb6⟩
          have HOw := hid (own_step HOw.out hb6)
          have HBl := hid (below_of HBl.out HBl.out.size hb6)
          have hz6 := HBl.out.size
          clear hb6 f0 f1
          go_wp2_with (at_builtin; refine app_one (w := w6) 30 98 (.agg Pc.z.enc.toArray) 5 5 Try.underlying30 (by kernel_rfl) rfl (by decide) w.heap.size _ i _ HOw.out ?d1 (by decide) hz6 [.int .i8 q.x, .int .i8 q.y, .int .i8 (kindP fr tt), .int .i8 (turnP fr tt : Nat), .int .i8 1] _ _ rfl rfl rfl _ rfl ?d3 rfl (by intro u hu; simp at hu; rcases hu with rfl | rfl | rfl | rfl | rfl <;> rfl) ?_)
          case d1 => omega
          case d3 => rfl
          intro A7 c7 w7 own7 hb7 hg7 hat7
          have HO7 := hid own7
          have HB7 := hid (HBl.out.trans hb7)
          clear own7 hb7 hg7 hat7
          go_wp2_with fail
          have hk := HK.out
          subst hk
          exact ⟨⟨i + 1, A7, c7, by omega, by go_num, rfl, by rw [HLi.out, HPq.out]; exact HO7.out, HB7.out⟩, by simp [intOf]; omega⟩
      · obtain ⟨j, hj⟩ : ∃ j, i = j + 1 := ⟨i - 1, by omega⟩
        obtain ⟨pv, hpv⟩ : ∃ pv, P[j]? = some pv := ⟨_, List.getElem?_eq_getElem (by rw [← HN.out]; omega)⟩
        have hd2 : decide ((0 : Int) < (i : Int)) = true := by rw [decide_eq_true_iff]; omega
        have hd9 : decide (0 < i) = true := by rw [decide_eq_true_iff]; omega
        have wj : IntKind.i64.wrap ((i : Int) - 1) = (j : Int) := by rw [show (i : Int) - 1 = (j : Int) by omega]; exact IntWalk.i64_in _ (by omega)
        have hji : (j : Int) < (n : Int) := by omega
        obtain ⟨g0, g1⟩ := HC.out V HBl.out j pv hpv
        have hsd := HF1.out j pv hj hpv
        have HSd := hid (fun (X : Later V) => toward_I q.x q.y pv.x pv.y X.w hqr2)
        rw [hsd] at HSd
        have hL := @later_cell V
        have hal : ab < V.heap.size := Nat.lt_of_lt_of_le hab HBl.out.size
        clear hpv hsd h0 hj
        go_wp2_with fail
        (try rw [← HV.out])
        refine wp_region_later (by kernel_rfl) (by kernel_rfl) ?_
        repeat (first | go_big_quiet_skip | (go_big_quiet_want; go_big_quiet_op; first | go_big_quiet_on | (apply Exists.intro; refine ⟨fun _ => ?_, ?_⟩; (go_at_call 100; with_reducible exact quiet_later (HSd.out _)); go_big_quiet_on)))
        refine wpQuiet_nil ?_
        rintro ⟨w4, hbn⟩
        dsimp only
        have HOw := hid (own_step HOw.out hbn)
        have HBl := hid (below_of HBl.out HBl.out.size hbn)
        have t0 := cell_on hbn t0
        have t1 := cell_on hbn t1
        have t2 := Nat.lt_of_lt_of_le t2 hbn.size
        clear hbn hL g0 g1 f0 f1
        obtain ⟨f0, f1⟩ := HC.out w4 HBl.out i q hq
        clear hal wj hji hd2 hd9
        by_cases hkn : k < n
        · obtain ⟨pn, hpn⟩ : ∃ pn, P[k]? = some pn := ⟨_, List.getElem?_eq_getElem (by rw [← HN.out]; exact hkn)⟩
          have hd3 : decide ((k : Int) < (n : Int)) = true := by rw [decide_eq_true_iff]; omega
          have hki : (k : Int) < (n : Int) := by omega
          obtain ⟨g0, g1⟩ := HC.out w4 HBl.out k pn hpn
          have hsd := HT1.out pn hkn hpn
          have HSd := hid (fun (X : Later w4) => toward_I q.x q.y pn.x pn.y X.w hqr2)
          rw [hsd] at HSd
          have hL := @later_cell w4
          have hal : ab < w4.heap.size := Nat.lt_of_lt_of_le hab HBl.out.size
          clear hpn hsd
          go_wp2_with fail
          (try rw [← HV.out])
          refine wp_region_later (by kernel_rfl) (by kernel_rfl) ?_
          repeat (first | go_big_quiet_skip | (go_big_quiet_want; go_big_quiet_op; first | go_big_quiet_on | (apply Exists.intro; refine ⟨fun _ => ?_, ?_⟩; (go_at_call 100; with_reducible exact quiet_later (HSd.out _)); go_big_quiet_on)))
          refine wpQuiet_nil ?_
          rintro ⟨w5, hbn⟩
          dsimp only
          have HOw := hid (own_step HOw.out hbn)
          have HBl := hid (below_of HBl.out HBl.out.size hbn)
          have t0 := cell_on hbn t0
          have t1 := cell_on hbn t1
          have t2 := Nat.lt_of_lt_of_le t2 hbn.size
          clear hbn hL g0 g1 f0 f1
          obtain ⟨f0, f1⟩ := HC.out w5 HBl.out i q hq
          clear hal
          have HPw := hid (HPS.out w5)
          go_wp2_with fail
          (try rw [← HV.out])
          refine HPw.out.mono ?_
          rintro e6 w6 ⟨rfl, hb6⟩
          have HOw := hid (own_step HOw.out hb6)
          have HBl := hid (below_of HBl.out HBl.out.size hb6)
          have hz6 := HBl.out.size
          clear hb6 f0 f1
          go_wp2_with (at_builtin; refine app_one (w := w6) 30 98 (.agg Pc.z.enc.toArray) 5 5 Try.underlying30 (by kernel_rfl) rfl (by decide) w.heap.size _ i _ HOw.out ?d1 (by decide) hz6 [.int .i8 q.x, .int .i8 q.y, .int .i8 (kindP fr tt), .int .i8 (turnP fr tt : Nat), .int .i8 1] _ _ rfl rfl rfl _ rfl ?d3 rfl (by intro u hu; simp at hu; rcases hu with rfl | rfl | rfl | rfl | rfl <;> rfl) ?_)
          case d1 => omega
          case d3 => rfl
          intro A7 c7 w7 own7 hb7 hg7 hat7
          have HO7 := hid own7
          have HB7 := hid (HBl.out.trans hb7)
          clear own7 hb7 hg7 hat7
          go_wp2_with fail
          have hk := HK.out
          subst hk
          exact ⟨⟨i + 1, A7, c7, by omega, by go_num, rfl, by rw [HLi.out, HPq.out]; exact HO7.out, HB7.out⟩, by simp [intOf]; omega⟩
        · have hd3 : decide ((k : Int) < (n : Int)) = false := by rw [decide_eq_false_iff_not]; omega
          have htt := HT0.out hkn
          subst htt
          have HPw := hid (HPS.out w4)
          go_wp2_with fail
          (try rw [← HV.out])
          refine HPw.out.mono ?_
          rintro e6 w6 ⟨rfl, hb6⟩
          have HOw := hid (own_step HOw.out hb6)
          have HBl := hid (below_of HBl.out HBl.out.size hb6)
          have hz6 := HBl.out.size
          clear hb6 f0 f1
          go_wp2_with (at_builtin; refine app_one (w := w6) 30 98 (.agg Pc.z.enc.toArray) 5 5 Try.underlying30 (by kernel_rfl) rfl (by decide) w.heap.size _ i _ HOw.out ?d1 (by decide) hz6 [.int .i8 q.x, .int .i8 q.y, .int .i8 (kindP fr tt), .int .i8 (turnP fr tt : Nat), .int .i8 1] _ _ rfl rfl rfl _ rfl ?d3 rfl (by intro u hu; simp at hu; rcases hu with rfl | rfl | rfl | rfl | rfl <;> rfl) ?_)
          case d1 => omega
          case d3 => rfl
          intro A7 c7 w7 own7 hb7 hg7 hat7
          have HO7 := hid own7
          have HB7 := hid (HBl.out.trans hb7)
          clear own7 hb7 hg7 hat7
          go_wp2_with fail
          have hk := HK.out
          subst hk
          exact ⟨⟨i + 1, A7, c7, by omega, by go_num, rfl, by rw [HLi.out, HPq.out]; exact HO7.out, HB7.out⟩, by simp [intOf]; omega⟩
    · have hin : i = n := by omega
      subst hin
      have hd : decide ((i : Int) < (i : Int)) = false := by rw [decide_eq_false_iff_not]; omega
      have HOw := hid own
      have HBl := hid hbl
      clear own hbl
      go_wp2_with fail
      refine bodyPost_ret (v := .tuple #[.slice B i cB, .int .i64 0]) (by simp [results, Try.results73, go_sem]) rfl ⟨B, cB, rfl, HBl.out, ?_⟩
      rw [HAll.out]
      exact HOw.out
end Go.Proofs.Ytgkgklgeobbmlaa
