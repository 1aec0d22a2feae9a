/-
  The laws' own helpers over Way: copies, sizes, comparisons, marks.
  Conditions: lengths up to a bound where memory is made.
-/
import Derived.Test.YtgkgklgeobbmlaaOb
import Derived.Test.YtgkgklgeobbmlaaProg
import Derived.Test.YtgkgklgeobbmlaaData
import Derived.Test.YtgkgklgeobbmlaaConvBd
namespace Go.Proofs.Ytgkgklgeobbmlaa
open Go.RowKit
set_option linter.unusedSimpArgs false

theorem to_Wy_L (p : Wy) (w : World) :
    Calls Try.prog 10 #[.agg p.enc.toArray] w fun e w' => e = .returned (.agg p.enc.toArray) ∧ Below w.heap.size w w' := by
  obtain ⟨fx_, fy_, sd_, tx_, ty_, ou_⟩ := p
  simp only [Wy.enc] at *
  go_enter Try.func10, Try.ntmps10
  go_wp2_with fail
  refine (to_Ce_L fx_ fy_ _).mono ?_
  rintro e w0 ⟨rfl, hb0⟩
  have hz0 := hb0.size
  simp only [World.size_alloc, World.size_setCell] at hz0
  obtain ⟨hc0, hf0⟩ := bcell hb0
  have s01 : w.heap.size < w0.heap.size := by omega
  have s02 : w.heap.size + 1 < w0.heap.size := by omega
  have s03 : w.heap.size + 1 + 1 < w0.heap.size := by omega
  go_wp2_with fail
  refine (to_Ce_L tx_ ty_ _).mono ?_
  rintro e w1 ⟨rfl, hb1⟩
  have hz1 := hb1.size
  simp only [World.size_alloc, World.size_setCell] at hz1
  obtain ⟨hc1, hf1⟩ := bcell hb1
  have s11 : w.heap.size < w1.heap.size := by omega
  have s12 : w.heap.size + 1 < w1.heap.size := by omega
  have s13 : w.heap.size + 1 + 1 < w1.heap.size := by omega
  go_wp2_with fail
  refine bodyPost_ret (v := .agg #[.int .i8 fx_, .int .i8 fy_, .int .i8 sd_, .int .i8 tx_, .int .i8 ty_, .int .i8 ou_]) (by simp [results, Try.results10, go_sem, hc0, s01, s02, s03, hc1, s11, s12, s13]) rfl ⟨rfl, ?_⟩
  repeat (refine Below.setCell ?_ (by simp; try omega) _)
  refine below_of ?_ (by simp; omega) hb1
  repeat (refine Below.setCell ?_ (by simp; try omega) _)
  exact below_of ((((Below.refl _ _).alloc (Nat.le_refl _) _).alloc (by simp) _).alloc (by simp; omega) _) (by simp; omega) hb0
set_option maxHeartbeats 400000 in
theorem toS_Wy_L (a : Option Addr) (c : Nat) (xs : List Wy) (w : World) (h : SlA Wy.enc 6 w a xs) (hs : xs.length ≤ 1048576) :
    Calls Try.prog 17 #[.slice a xs.length c] w fun e w' => ∃ g, e = .returned (.slice (some ⟨g, 0, none⟩) xs.length xs.length) ∧ Below w.heap.size w w' ∧ w'.ownsRow w.heap.size 38 6 (.slice (some ⟨g, 0, none⟩) xs.length xs.length) xs.length (xs.flatMap Wy.enc) := by
  have hmk := make_any (P := Try.prog) 47 38 (.agg Wy.z.enc.toArray) 6 6 Try.underlying47 (by kernel_rfl) xs.length (by omega) (by omega)
  go_enter Try.func17, Try.ntmps17
  go_wp2_with fail
  obtain ⟨g, hg, own0⟩ : ∃ g, g = w.heap.size ∧ (w.alloc (Obj.cells (madeCells Wy.z.enc.toArray (xs.length * 6)) 38)).ownsRow w.heap.size 38 6 (.slice (some ⟨g, 0, none⟩) xs.length xs.length) xs.length (madeCells Wy.z.enc.toArray (xs.length * 6)).toList :=
    ⟨_, rfl, World.ownsRow_lit w _ _ (Nat.le_refl _) (by simp only [maxLen]; omega) (size_madeCells _ _)⟩
  rw [← hg]
  have hB0 : Below w.heap.size w (w.alloc (Obj.cells (madeCells Wy.z.enc.toArray (xs.length * 6)) 38)) := (Below.refl _ _).alloc (Nat.le_refl _) _
  have Hg := hid hg
  clear hg hmk
  go_loopw [4] (fun i wr => ∃ (k : Nat) (cs : List Value), k ≤ xs.length ∧ i = .int .i64 k ∧ cs.take (k * 6) = (xs.take k).flatMap Wy.enc ∧ wr.ownsRow w.heap.size 38 6 (.slice (some ⟨g, 0, none⟩) xs.length xs.length) xs.length cs ∧ Below w.heap.size w wr) (fun i _ => xs.length - (intOf i).toNat)
  case atStart => exact ⟨0, _, Nat.zero_le _, rfl, by simp, own0, hB0⟩
  case round =>
    clear own0 hB0
    obtain ⟨k, cs, hk, rfl, ht, own, hb⟩ := hrel
    by_cases hlt : k < xs.length
    · obtain ⟨b1, o1, rfl, hb1, hc1⟩ := h.cells (by omega)
      have e1 : xs[k]? = some xs[k] := List.getElem?_eq_getElem hlt
      have Hp := hid e1
      clear e1
      generalize xs[k] = p at *
      obtain ⟨fx_, fy_, sd_, tx_, ty_, ou_⟩ := p
      have f0 : wr.cell? ⟨b1, o1 + k * 6, none⟩ = some (.int .i8 fx_) := (hb.cell (p := ⟨b1, _, none⟩) hb1).trans (hc1 k _ Hp.out 0 _ rfl)
      have f1 : wr.cell? ⟨b1, o1 + k * 6 + 1, none⟩ = some (.int .i8 fy_) := (hb.cell (p := ⟨b1, _, none⟩) hb1).trans (hc1 k _ Hp.out 1 _ rfl)
      have f2 : wr.cell? ⟨b1, o1 + k * 6 + 2, none⟩ = some (.int .i8 sd_) := (hb.cell (p := ⟨b1, _, none⟩) hb1).trans (hc1 k _ Hp.out 2 _ rfl)
      have f3 : wr.cell? ⟨b1, o1 + k * 6 + 3, none⟩ = some (.int .i8 tx_) := (hb.cell (p := ⟨b1, _, none⟩) hb1).trans (hc1 k _ Hp.out 3 _ rfl)
      have f4 : wr.cell? ⟨b1, o1 + k * 6 + 4, none⟩ = some (.int .i8 ty_) := (hb.cell (p := ⟨b1, _, none⟩) hb1).trans (hc1 k _ Hp.out 4 _ rfl)
      have f5 : wr.cell? ⟨b1, o1 + k * 6 + 5, none⟩ = some (.int .i8 ou_) := (hb.cell (p := ⟨b1, _, none⟩) hb1).trans (hc1 k _ Hp.out 5 _ rfl)
      have Ho := hid own
      have Ht := hid ht
      have Hb := hid hb
      clear hc1 own ht hb
      have hts := fun W => to_Wy_L ⟨fx_, fy_, sd_, tx_, ty_, ou_⟩ W
      simp only [Wy.enc] at hts
      have Hts := hid hts
      clear hts
      go_wp2_with fail
      refine (Hts.out _).mono ?_
      rintro e w1 ⟨rfl, hb9⟩
      have own1 := own_step Ho.out hb9
      have hcs : cs.length = xs.length * 6 := own1.1
      have c0 : w1.cell? ⟨g, k * 6, none⟩ = some (cs.getD (k * 6) undef) := (own1.cellAt _ (by omega)).trans (getD_some (by omega))
      have z0 : w1.frozen? ⟨g, k * 6, none⟩ = false := own1.frozenAt _
      have c1 : w1.cell? ⟨g, k * 6 + 1, none⟩ = some (cs.getD (k * 6 + 1) undef) := (own1.cellAt _ (by omega)).trans (getD_some (by omega))
      have z1 : w1.frozen? ⟨g, k * 6 + 1, none⟩ = false := own1.frozenAt _
      have c2 : w1.cell? ⟨g, k * 6 + 2, none⟩ = some (cs.getD (k * 6 + 2) undef) := (own1.cellAt _ (by omega)).trans (getD_some (by omega))
      have z2 : w1.frozen? ⟨g, k * 6 + 2, none⟩ = false := own1.frozenAt _
      have c3 : w1.cell? ⟨g, k * 6 + 3, none⟩ = some (cs.getD (k * 6 + 3) undef) := (own1.cellAt _ (by omega)).trans (getD_some (by omega))
      have z3 : w1.frozen? ⟨g, k * 6 + 3, none⟩ = false := own1.frozenAt _
      have c4 : w1.cell? ⟨g, k * 6 + 4, none⟩ = some (cs.getD (k * 6 + 4) undef) := (own1.cellAt _ (by omega)).trans (getD_some (by omega))
      have z4 : w1.frozen? ⟨g, k * 6 + 4, none⟩ = false := own1.frozenAt _
      have c5 : w1.cell? ⟨g, k * 6 + 5, none⟩ = some (cs.getD (k * 6 + 5) undef) := (own1.cellAt _ (by omega)).trans (getD_some (by omega))
      have z5 : w1.frozen? ⟨g, k * 6 + 5, none⟩ = false := own1.frozenAt _
      have Ho1 := hid own1
      have Hcs := hid hcs
      clear own1 hcs
      go_wp2_with fail
      have h0 : _ ∧ _ := Ho1.out.stored (k * 6) (.int .i8 fx_)
      have h1 : _ ∧ _ := h0.1.stored (k * 6 + 1) (.int .i8 fy_)
      have h2 : _ ∧ _ := h1.1.stored (k * 6 + 2) (.int .i8 sd_)
      have h3 : _ ∧ _ := h2.1.stored (k * 6 + 3) (.int .i8 tx_)
      have h4 : _ ∧ _ := h3.1.stored (k * 6 + 4) (.int .i8 ty_)
      have h5 : _ ∧ _ := h4.1.stored (k * 6 + 5) (.int .i8 ou_)
      refine ⟨⟨k + 1, _, by omega, by go_num, flat_take (en := Wy.enc) (fun _ => rfl) Hp.out Hcs.out Ht.out, h5.1, ?_⟩, by simp [intOf]; omega⟩
      exact ((((((below_of Hb.out Hb.out.size hb9).setCell (by rw [Hg.out]; exact Nat.le_refl _) _).setCell (by rw [Hg.out]; exact Nat.le_refl _) _).setCell (by rw [Hg.out]; exact Nat.le_refl _) _).setCell (by rw [Hg.out]; exact Nat.le_refl _) _).setCell (by rw [Hg.out]; exact Nat.le_refl _) _).setCell (by rw [Hg.out]; exact Nat.le_refl _) _
    · obtain rfl : k = xs.length := by omega
      have Ho := hid own
      have Ht := hid ht
      clear own ht
      go_wp2_with fail
      go_ret
      have hcs : cs.length = xs.length * 6 := Ho.out.1
      have e : cs = xs.flatMap Wy.enc := by
        have := Ht.out
        rw [List.take_of_length_le (by omega), List.take_length] at this
        exact this
      exact ⟨g, rfl, hb, by rw [← e]; exact Ho.out⟩
theorem sz_Wy_L (a : Option Addr) (n c : Nat) (left : Int) (w : World) (h0 : 0 ≤ left) (h1 : left ≤ 1048576) (hn : n ≤ 9223372036854775807) :
    Calls Try.prog 15 #[.slice a n c, .int .i64 left] w fun e w' => e = .returned (.int .i64 (if left - n < 0 then -1 else left - n)) ∧ w = w' := by
  go_enter Try.func15, Try.ntmps15
  go_wp2
  all_goals go_ret
  all_goals exact ⟨ret_int (by first | omega | (split <;> omega)), rfl⟩
-- eq of Wy: by hand
set_option maxHeartbeats 1600000 in
theorem eq_Wy_L (p q : Wy) (w : World) :
    Calls Try.prog 43 #[.agg p.enc.toArray, .agg q.enc.toArray] w fun e w' => e = .returned (.bool (decide (p = q))) ∧ Below w.heap.size w w' := by
  obtain ⟨fx, fy, sd, tx, ty, ou⟩ := p
  obtain ⟨fx', fy', sd', tx', ty', ou'⟩ := q
  obtain ⟨W0, hW0⟩ : ∃ W, W = (w.alloc (.cells #[.int .i8 fx, .int .i8 fy, .int .i8 sd, .int .i8 tx, .int .i8 ty, .int .i8 ou] 38)).alloc (.cells #[.int .i8 fx', .int .i8 fy', .int .i8 sd', .int .i8 tx', .int .i8 ty', .int .i8 ou'] 38) := ⟨_, rfl⟩
  have B0 : Below w.heap.size w W0 := by rw [hW0]; exact ((Below.refl _ _).alloc (Nat.le_refl _) _).alloc (by simp) _
  have p0 : W0.cell? ⟨w.heap.size, 0, none⟩ = some (.int .i8 fx) := by rw [hW0]; simp [go_sem]
  have p1 : W0.cell? ⟨w.heap.size, 1, none⟩ = some (.int .i8 fy) := by rw [hW0]; simp [go_sem]
  have p2 : W0.cell? ⟨w.heap.size, 2, none⟩ = some (.int .i8 sd) := by rw [hW0]; simp [go_sem]
  have p3 : W0.cell? ⟨w.heap.size, 3, none⟩ = some (.int .i8 tx) := by rw [hW0]; simp [go_sem]
  have p4 : W0.cell? ⟨w.heap.size, 4, none⟩ = some (.int .i8 ty) := by rw [hW0]; simp [go_sem]
  have p5 : W0.cell? ⟨w.heap.size, 5, none⟩ = some (.int .i8 ou) := by rw [hW0]; simp [go_sem]
  have q0 : W0.cell? ⟨w.heap.size + 1, 0, none⟩ = some (.int .i8 fx') := by rw [hW0]; simp [go_sem]
  have q1 : W0.cell? ⟨w.heap.size + 1, 1, none⟩ = some (.int .i8 fy') := by rw [hW0]; simp [go_sem]
  have q2 : W0.cell? ⟨w.heap.size + 1, 2, none⟩ = some (.int .i8 sd') := by rw [hW0]; simp [go_sem]
  have q3 : W0.cell? ⟨w.heap.size + 1, 3, none⟩ = some (.int .i8 tx') := by rw [hW0]; simp [go_sem]
  have q4 : W0.cell? ⟨w.heap.size + 1, 4, none⟩ = some (.int .i8 ty') := by rw [hW0]; simp [go_sem]
  have q5 : W0.cell? ⟨w.heap.size + 1, 5, none⟩ = some (.int .i8 ou') := by rw [hW0]; simp [go_sem]
  have HB := hid B0
  have Hq0 := hid (eq_Ce_L fx fy fx' fy' W0)
  have Hq1 := hid (fun W => eq_Ce_L tx ty tx' ty' W)
  have HD := hid (show (decide ((⟨fx, fy, sd, tx, ty, ou⟩ : Wy) = ⟨fx', fy', sd', tx', ty', ou'⟩)) = (decide (fx = fx' ∧ fy = fy') && (decide (sd = sd') && (decide (tx = tx' ∧ ty = ty') && decide (ou = ou')))) by
    rw [Bool.eq_iff_iff]; simp [Wy.mk.injEq, and_assoc])
  generalize decide ((⟨fx, fy, sd, tx, ty, ou⟩ : Wy) = ⟨fx', fy', sd', tx', ty', ou'⟩) = dd at *
  obtain ⟨d0, hd0⟩ : ∃ d, decide (fx = fx' ∧ fy = fy') = d := ⟨_, rfl⟩
  obtain ⟨d1, hd1⟩ : ∃ d, decide (tx = tx' ∧ ty = ty') = d := ⟨_, rfl⟩
  rw [hd0, hd1] at HD
  rw [hd0] at Hq0
  simp only [hd1] at Hq1
  clear hd0 hd1 B0
  simp only [Wy.enc]
  go_enter Try.func43, Try.ntmps43
  go_wp2_with fail
  rw [← hW0]
  clear hW0
  refine Hq0.out.mono ?_
  rintro e w1 ⟨rfl, hb1⟩
  have p2 := cell_on hb1 p2
  have p3 := cell_on hb1 p3
  have p4 := cell_on hb1 p4
  have p5 := cell_on hb1 p5
  have q2 := cell_on hb1 q2
  have q3 := cell_on hb1 q3
  have q4 := cell_on hb1 q4
  have q5 := cell_on hb1 q5
  have HB1 := hid (below_of HB.out HB.out.size hb1)
  clear hb1 p0 p1 q0 q1
  cases d0 with
  | false =>
    go_wp2_with fail
    go_ret
    exact ⟨ret_bool (by rw [HD.out]; rfl), HB1.out⟩
  | true =>
    by_cases hs : sd = sd'
    · have hb : (sd != sd') = false := by rw [hs]; simp
      have HS := hid (show decide (sd = sd') = true from decide_eq_true hs)
      clear hs
      go_wp2_with fail
      refine (Hq1.out _).mono ?_
      rintro e w2 ⟨rfl, hb2⟩
      have p5 := cell_on hb2 p5
      have q5 := cell_on hb2 q5
      have HB2 := hid (below_of HB1.out HB1.out.size hb2)
      clear hb2 p2 p3 p4 q2 q3 q4
      cases d1 with
      | false =>
        go_wp2_with fail
        go_ret
        exact ⟨ret_bool (by rw [HD.out, HS.out]; rfl), HB2.out⟩
      | true =>
        by_cases ho : ou = ou'
        · have hb : (ou != ou') = false := by rw [ho]; simp
          have HO := hid (show decide (ou = ou') = true from decide_eq_true ho)
          clear ho
          go_wp2_with fail
          go_ret
          exact ⟨ret_bool (by rw [HD.out, HS.out, HO.out]; rfl), HB2.out⟩
        · have hb : (ou != ou') = true := by simpa using ho
          have HO := hid (show decide (ou = ou') = false from decide_eq_false ho)
          clear ho
          go_wp2_with fail
          go_ret
          exact ⟨ret_bool (by rw [HD.out, HS.out, HO.out]; rfl), HB2.out⟩
    · have hb : (sd != sd') = true := by simpa using hs
      have HS := hid (show decide (sd = sd') = false from decide_eq_false hs)
      clear hs
      go_wp2_with fail
      go_ret
      exact ⟨ret_bool (by rw [HD.out, HS.out]; rfl), HB1.out⟩
set_option maxHeartbeats 400000 in
theorem eqS_Wy_L (a b : Option Addr) (c d : Nat) (xs ys : List Wy) (w : World) (ha : SlA Wy.enc 6 w a xs) (hb : SlA Wy.enc 6 w b ys) :
    Calls Try.prog 19 #[.slice a xs.length c, .slice b ys.length d] w fun e w' => e = .returned (.bool (decide (xs = ys))) ∧ Below w.heap.size w w' := by
  have sa := ha.small
  have sb := hb.small
  by_cases hl : xs.length = ys.length
  · have hl1 : ((xs.length : Int) != ys.length) = false := by simp [hl]
    go_enter Try.func19, Try.ntmps19
    go_wp2_with fail
    go_loopw [5] (fun i wr => ∃ k : Nat, k ≤ xs.length ∧ i = .int .i64 k ∧ xs.take k = ys.take k ∧ Below w.heap.size w wr) (fun i _ => xs.length - (intOf i).toNat)
    case atStart => exact ⟨0, Nat.zero_le _, rfl, rfl, Below.refl _ _⟩
    case round =>
      obtain ⟨k, hk, rfl, ht, hbl⟩ := hrel
      by_cases hlt : k < xs.length
      · obtain ⟨b1, o1, rfl, hb1, hc1⟩ := ha.cells (by omega)
        obtain ⟨b2, o2, rfl, hb2, hc2⟩ := hb.cells (by omega)
        have hly : k < ys.length := by omega
        have e1 : xs[k]? = some xs[k] := List.getElem?_eq_getElem hlt
        have e2 : ys[k]? = some ys[k] := List.getElem?_eq_getElem hly
        have Hp := hid e1
        have Hq := hid e2
        have HT := hid ht
        have HL := hid hl
        clear ht hl e1 e2
        generalize xs[k] = p at *
        generalize ys[k] = q at *
        have f0 : w.cell? ⟨b1, o1 + k * 6, none⟩ = some (.int .i8 p.fx) := hc1 k _ Hp.out 0 _ rfl
        have f1 : w.cell? ⟨b1, o1 + k * 6 + 1, none⟩ = some (.int .i8 p.fy) := hc1 k _ Hp.out 1 _ rfl
        have f2 : w.cell? ⟨b1, o1 + k * 6 + 2, none⟩ = some (.int .i8 p.sd) := hc1 k _ Hp.out 2 _ rfl
        have f3 : w.cell? ⟨b1, o1 + k * 6 + 3, none⟩ = some (.int .i8 p.tx) := hc1 k _ Hp.out 3 _ rfl
        have f4 : w.cell? ⟨b1, o1 + k * 6 + 4, none⟩ = some (.int .i8 p.ty) := hc1 k _ Hp.out 4 _ rfl
        have f5 : w.cell? ⟨b1, o1 + k * 6 + 5, none⟩ = some (.int .i8 p.ou) := hc1 k _ Hp.out 5 _ rfl
        have g0 : w.cell? ⟨b2, o2 + k * 6, none⟩ = some (.int .i8 q.fx) := hc2 k _ Hq.out 0 _ rfl
        have g1 : w.cell? ⟨b2, o2 + k * 6 + 1, none⟩ = some (.int .i8 q.fy) := hc2 k _ Hq.out 1 _ rfl
        have g2 : w.cell? ⟨b2, o2 + k * 6 + 2, none⟩ = some (.int .i8 q.sd) := hc2 k _ Hq.out 2 _ rfl
        have g3 : w.cell? ⟨b2, o2 + k * 6 + 3, none⟩ = some (.int .i8 q.tx) := hc2 k _ Hq.out 3 _ rfl
        have g4 : w.cell? ⟨b2, o2 + k * 6 + 4, none⟩ = some (.int .i8 q.ty) := hc2 k _ Hq.out 4 _ rfl
        have g5 : w.cell? ⟨b2, o2 + k * 6 + 5, none⟩ = some (.int .i8 q.ou) := hc2 k _ Hq.out 5 _ rfl
        obtain ⟨hcw, hfw⟩ := bcell hbl
        have hz := hbl.size
        have hb1w : b1 < wr.heap.size := by omega
        have hb2w : b2 < wr.heap.size := by omega
        clear hc1 hc2
        have Heq := hid (eq_Wy_L p q)
        generalize hd : decide (p = q) = d1 at *
        have Hd := hid hd
        clear hd
        have hL := @later_cell wr
        go_wp2_with fail
        refine wp_region_later (by kernel_rfl) (by kernel_rfl) ?_
        repeat (first | go_big_quiet_skip | (go_big_quiet_want; go_big_quiet_op; first | go_big_quiet_on | (apply Exists.intro; refine ⟨fun _ => ?_, ?_⟩; (go_at_call 43; exact quiet_later (Heq.out _)); go_big_quiet_on)))
        refine wpQuiet_nil ?_
        intro x
        cases d1
        · go_wp2_with fail
          go_ret
          refine ⟨ret_bool ?_, below_of hbl hz x.below⟩
          have hne : p ≠ q := of_decide_eq_false Hd.out
          rw [eq_comm, decide_eq_false_iff_not]
          intro e
          apply hne
          have h1 := Hp.out
          rw [e] at h1
          exact Option.some.inj (h1.symm.trans Hq.out)
        · go_wp2_with fail
          have heq : p = q := of_decide_eq_true Hd.out
          refine ⟨⟨k + 1, by omega, by go_num, ?_, below_of hbl hz x.below⟩, by simp [intOf]; omega⟩
          rw [List.take_add_one, List.take_add_one, HT.out, Hp.out, Hq.out, heq]
      · obtain rfl : k = xs.length := by omega
        have HT := hid ht
        have HL := hid hl
        clear ht hl
        go_wp2_with fail
        go_ret
        refine ⟨ret_bool ?_, hbl⟩
        rw [eq_comm, decide_eq_true_iff]
        have := HT.out
        rw [List.take_length, HL.out, List.take_length] at this
        exact this
  · have hl1 : ((xs.length : Int) != ys.length) = true := by rw [bne_iff_ne]; omega
    have HL := hid hl
    clear hl
    go_enter Try.func19, Try.ntmps19
    go_wp2_with fail
    go_ret
    refine ⟨ret_bool ?_, Below.refl _ _⟩
    rw [eq_comm, decide_eq_false_iff_not]
    intro e
    exact HL.out (by rw [e])
def Wy.mk_ (k : Int) : Wy := ⟨IntKind.i8.wrap (k), IntKind.i8.wrap (k + 1), IntKind.i8.wrap (k + 1 + 1), IntKind.i8.wrap (k + 1 + 1 + 1), IntKind.i8.wrap (k + 1 + 1 + 1 + 1), IntKind.i8.wrap (k + 1 + 1 + 1 + 1 + 1)⟩
set_option maxHeartbeats 400000 in
theorem markS_Wy_L (base : Nat) (A : Option Addr) (c : Nat) (xs : List Wy) (k0 : Int) (w : World) (h : w.ownsRow base 38 6 (.slice A xs.length c) xs.length (xs.flatMap Wy.enc)) (h0 : 0 ≤ k0) (h1 : k0 ≤ 1099511627776) (hs : xs.length ≤ 1073741824) :
    Calls Try.prog 20 #[.slice A xs.length c, .int .i64 k0] w fun e w' => e = .returned (.int .i64 (k0 + 6 * xs.length)) ∧ w.grownBy w' (A.map (·.block)) ∧ w'.ownsRow base 38 6 (.slice A xs.length c) xs.length ((markL Wy.mk_ 6 xs.length k0).flatMap Wy.enc) := by
  go_enter Try.func20, Try.ntmps20
  go_wp2_with fail
  go_loopw [1, 5] (fun kv i wr => ∃ (k : Nat) (cs : List Value), k ≤ xs.length ∧ kv = .int .i64 (k0 + 6 * k) ∧ i = .int .i64 k ∧ cs.take (k * 6) = ((markL Wy.mk_ 6 xs.length k0).take k).flatMap Wy.enc ∧ wr.ownsRow base 38 6 (.slice A xs.length c) xs.length cs ∧ w.grownBy wr (A.map (·.block))) (fun _ i _ => xs.length - (intOf i).toNat)
  case atStart => exact ⟨0, _, Nat.zero_le _, by go_num, rfl, by simp, h, World.grownBy.refl _ _⟩
  case round =>
    obtain ⟨k, cs, hk, rfl, rfl, ht, own, hg⟩ := hrel
    obtain ⟨q, hq⟩ : ∃ q : Int, q = k0 + 6 * k := ⟨_, rfl⟩
    have hq0 : 0 ≤ q := by omega
    have hq1 : q ≤ 1099511627776 + 6 * 1073741824 := by omega
    have Hq := hid hq
    by_cases hlt : k < xs.length
    · obtain ⟨g, rfl⟩ : ∃ g, A = some ⟨g, 0, none⟩ := by
        obtain ⟨g, cap', hv, _, _⟩ := own.form (by omega)
        injection hv with hv1
        exact ⟨g, hv1⟩
      have hp : (markL Wy.mk_ 6 xs.length k0)[k]? = some (Wy.mk_ q) := by rw [markL_get _ _ _ _ _ hlt, hq]; rfl
      have hcs : cs.length = xs.length * 6 := own.1
      have c0 : wr.cell? ⟨g, k * 6, none⟩ = some (cs.getD (k * 6) undef) := (own.cellAt _ (by omega)).trans (getD_some (by omega))
      have z0 : wr.frozen? ⟨g, k * 6, none⟩ = false := own.frozenAt _
      have c1 : wr.cell? ⟨g, k * 6 + 1, none⟩ = some (cs.getD (k * 6 + 1) undef) := (own.cellAt _ (by omega)).trans (getD_some (by omega))
      have z1 : wr.frozen? ⟨g, k * 6 + 1, none⟩ = false := own.frozenAt _
      have c2 : wr.cell? ⟨g, k * 6 + 2, none⟩ = some (cs.getD (k * 6 + 2) undef) := (own.cellAt _ (by omega)).trans (getD_some (by omega))
      have z2 : wr.frozen? ⟨g, k * 6 + 2, none⟩ = false := own.frozenAt _
      have c3 : wr.cell? ⟨g, k * 6 + 3, none⟩ = some (cs.getD (k * 6 + 3) undef) := (own.cellAt _ (by omega)).trans (getD_some (by omega))
      have z3 : wr.frozen? ⟨g, k * 6 + 3, none⟩ = false := own.frozenAt _
      have c4 : wr.cell? ⟨g, k * 6 + 4, none⟩ = some (cs.getD (k * 6 + 4) undef) := (own.cellAt _ (by omega)).trans (getD_some (by omega))
      have z4 : wr.frozen? ⟨g, k * 6 + 4, none⟩ = false := own.frozenAt _
      have c5 : wr.cell? ⟨g, k * 6 + 5, none⟩ = some (cs.getD (k * 6 + 5) undef) := (own.cellAt _ (by omega)).trans (getD_some (by omega))
      have z5 : wr.frozen? ⟨g, k * 6 + 5, none⟩ = false := own.frozenAt _
      have Ho := hid own
      have Ht := hid ht
      have Hg := hid hg
      have Hp := hid hp
      have Hcs := hid hcs
      rw [← hq]
      clear own ht hg hp hcs hq h
      go_wp2_with fail
      refine wp_loop_rounds 3 ?_
      rw [rounds_succ]
      go_wp2_with fail
      rw [rounds_succ]
      go_wp2_with fail
      rw [rounds_succ]
      go_wp2_with fail
      refine wp_loop_rounds 3 ?_
      rw [rounds_succ]
      go_wp2_with fail
      rw [rounds_succ]
      go_wp2_with fail
      rw [rounds_succ]
      go_wp2_with fail
      have h0 : _ ∧ _ := Ho.out.stored (k * 6) (.int .i8 (IntKind.i8.wrap (q)))
      have h1 : _ ∧ _ := h0.1.stored (k * 6 + 1) (.int .i8 (IntKind.i8.wrap (q + 1)))
      have h2 : _ ∧ _ := h1.1.stored (k * 6 + 2) (.int .i8 (IntKind.i8.wrap (q + 1 + 1)))
      have h3 : _ ∧ _ := h2.1.stored (k * 6 + 3) (.int .i8 (IntKind.i8.wrap (q + 1 + 1 + 1)))
      have h4 : _ ∧ _ := h3.1.stored (k * 6 + 4) (.int .i8 (IntKind.i8.wrap (q + 1 + 1 + 1 + 1)))
      have h5 : _ ∧ _ := h4.1.stored (k * 6 + 5) (.int .i8 (IntKind.i8.wrap (q + 1 + 1 + 1 + 1 + 1)))
      refine ⟨⟨k + 1, _, by omega, ?_, by go_num, flat_take (en := Wy.enc) (fun _ => rfl) Hp.out (by rw [markL_length]; exact Hcs.out) Ht.out, h5.1, ?_⟩, by simp [intOf]; omega⟩
      · have := Hq.out
        congr 1; omega
      · exact World.grownBy.trans (World.grownBy.trans (World.grownBy.trans (World.grownBy.trans (World.grownBy.trans (World.grownBy.trans (Hg.out) h0.2) h1.2) h2.2) h3.2) h4.2) h5.2
    · obtain rfl : k = xs.length := by omega
      have Ho := hid own
      have Ht := hid ht
      rw [← hq]
      clear own ht hq h
      go_wp2_with fail
      go_ret
      have hcs : cs.length = xs.length * 6 := Ho.out.1
      have e : cs = (markL Wy.mk_ 6 xs.length k0).flatMap Wy.enc := by
        have := Ht.out
        rw [List.take_of_length_le (by omega), List.take_of_length_le (by rw [markL_length]; exact Nat.le_refl _)] at this
        exact this
      exact ⟨ret_int Hq.out, hg, by rw [← e]; exact Ho.out⟩
end Go.Proofs.Ytgkgklgeobbmlaa
