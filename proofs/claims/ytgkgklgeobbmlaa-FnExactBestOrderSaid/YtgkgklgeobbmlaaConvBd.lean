/-
  The laws' own helpers over cells ([2]int8): copies, comparisons.
  The laws' own helpers over Piece: copies, sizes, comparisons, marks.
  The laws' own helpers over boards: sizes, copies, comparisons, marks.
  Conditions: none. lengths up to a bound where memory is made.
-/
import Derived.Test.YtgkgklgeobbmlaaProg
import Derived.Test.YtgkgklgeobbmlaaData
namespace Go.Proofs.Ytgkgklgeobbmlaa
open Go.RowKit
set_option linter.unusedSimpArgs false
set_option linter.unusedVariables false

set_option maxHeartbeats 400000 in
theorem to_Ce_L (a b : Int) (w : World) :
    Calls Try.prog 33 #[.agg #[.int .i8 a, .int .i8 b]] w fun e w' => e = .returned (.agg #[.int .i8 a, .int .i8 b]) ∧ Below w.heap.size w w' := by
  go_enter Try.func33, Try.ntmps33
  go_wp2
  refine wp_loop_rounds 3 ?_
  rw [rounds_succ]
  go_wp2
  rw [rounds_succ]
  go_wp2
  rw [rounds_succ]
  go_wp2
  refine bodyPost_ret (v := .agg #[.int .i8 a, .int .i8 b]) (by simp [results, Try.results33, go_sem]) rfl ⟨rfl, ?_⟩
  exact (((Below.refl _ _).alloc (Nat.le_refl _) _).alloc (by simp) _).alloc (by simp; omega) _
set_option maxHeartbeats 400000 in
theorem eq_Ce_L (a b c d : Int) (w : World) :
    Calls Try.prog 82 #[.agg #[.int .i8 a, .int .i8 b], .agg #[.int .i8 c, .int .i8 d]] w fun e w' => e = .returned (.bool (decide (a = c ∧ b = d))) ∧ Below w.heap.size w w' := by
  have hB : ∀ (o1 o2 : Obj) (n : Nat), Below w.heap.size w (((w.alloc o1).alloc o2).drewN n) := fun o1 o2 n => below_drewN (((Below.refl _ _).alloc (Nat.le_refl _) _).alloc (by simp) _) n
  have HB := hid hB
  clear hB
  by_cases h1 : a = c
  · have e1 : (a != c) = false := by simp [h1]
    by_cases h2 : b = d
    · have e2 : (b != d) = false := by simp [h2]
      have H1 := hid h1
      have H2 := hid h2
      clear h1 h2
      go_enter Try.func82, Try.ntmps82
      go_wp2
      refine wp_loop_rounds 3 ?_
      rw [rounds_succ]
      go_wp2
      go_quiet (fail)
      go_wp2
      rw [rounds_succ]
      go_wp2
      go_quiet (fail)
      go_wp2
      rw [rounds_succ]
      go_wp2
      go_ret
      exact ⟨ret_bool (by simp [H1.out, H2.out]), HB.out _ _ _⟩
    · have e2 : (b != d) = true := by simp [h2]
      have H2 := hid h2
      clear h1 h2
      go_enter Try.func82, Try.ntmps82
      go_wp2
      refine wp_loop_rounds 3 ?_
      rw [rounds_succ]
      go_wp2
      go_quiet (fail)
      go_wp2
      rw [rounds_succ]
      go_wp2
      go_quiet (fail)
      go_wp2
      go_ret
      exact ⟨ret_bool (by simp [H2.out]), by rw [World.drewN_drewN]; exact HB.out _ _ _⟩
  · have e1 : (a != c) = true := by simp [h1]
    have H1 := hid h1
    clear h1
    go_enter Try.func82, Try.ntmps82
    go_wp2
    refine wp_loop_rounds 3 ?_
    rw [rounds_succ]
    go_wp2
    go_quiet (fail)
    go_wp2
    go_ret
    exact ⟨ret_bool (by simp [H1.out]), HB.out _ _ _⟩
theorem to_Pc_L (p : Pc) (w : World) :
    Calls Try.prog 66 #[.agg p.enc.toArray] w fun e w' => e = .returned (.agg p.enc.toArray) ∧ Below w.heap.size w w' := by
  obtain ⟨x_, y_, k_, t_, d_⟩ := p
  simp only [Pc.enc] at *
  go_enter Try.func66, Try.ntmps66
  go_wp2_with fail
  refine (to_Ce_L x_ y_ _).mono ?_
  rintro e w0 ⟨rfl, hb0⟩
  have hz0 := hb0.size
  simp only [World.size_alloc, World.size_setCell] at hz0
  obtain ⟨hc0, hf0⟩ := bcell hb0
  have s01 : w.heap.size < w0.heap.size := by omega
  have s02 : w.heap.size + 1 < w0.heap.size := by omega
  have s03 : w.heap.size + 1 + 1 < w0.heap.size := by omega
  go_wp2_with fail
  refine bodyPost_ret (v := .agg #[.int .i8 x_, .int .i8 y_, .int .i8 k_, .int .i8 t_, .int .i8 d_]) (by simp [results, Try.results66, go_sem, hc0, s01, s02, s03]) rfl ⟨rfl, ?_⟩
  repeat (refine Below.setCell ?_ (by simp; try omega) _)
  exact below_of ((((Below.refl _ _).alloc (Nat.le_refl _) _).alloc (by simp) _).alloc (by simp; omega) _) (by simp; omega) hb0
set_option maxHeartbeats 400000 in
theorem toS_Pc_L (a : Option Addr) (c : Nat) (xs : List Pc) (w : World) (h : SlA Pc.enc 5 w a xs) (hs : xs.length ≤ 1048576) :
    Calls Try.prog 32 #[.slice a xs.length c] w fun e w' => ∃ g, e = .returned (.slice (some ⟨g, 0, none⟩) xs.length xs.length) ∧ Below w.heap.size w w' ∧ w'.ownsRow w.heap.size 98 5 (.slice (some ⟨g, 0, none⟩) xs.length xs.length) xs.length (xs.flatMap Pc.enc) := by
  have hmk := make_any (P := Try.prog) 30 98 (.agg Pc.z.enc.toArray) 5 5 Try.underlying30 (by kernel_rfl) xs.length (by omega) (by omega)
  go_enter Try.func32, Try.ntmps32
  go_wp2_with fail
  obtain ⟨g, hg, own0⟩ : ∃ g, g = w.heap.size ∧ (w.alloc (Obj.cells (madeCells Pc.z.enc.toArray (xs.length * 5)) 98)).ownsRow w.heap.size 98 5 (.slice (some ⟨g, 0, none⟩) xs.length xs.length) xs.length (madeCells Pc.z.enc.toArray (xs.length * 5)).toList :=
    ⟨_, rfl, World.ownsRow_lit w _ _ (Nat.le_refl _) (by simp only [maxLen]; omega) (size_madeCells _ _)⟩
  rw [← hg]
  have hB0 : Below w.heap.size w (w.alloc (Obj.cells (madeCells Pc.z.enc.toArray (xs.length * 5)) 98)) := (Below.refl _ _).alloc (Nat.le_refl _) _
  have Hg := hid hg
  clear hg hmk
  go_loopw [4] (fun i wr => ∃ (k : Nat) (cs : List Value), k ≤ xs.length ∧ i = .int .i64 k ∧ cs.take (k * 5) = (xs.take k).flatMap Pc.enc ∧ wr.ownsRow w.heap.size 98 5 (.slice (some ⟨g, 0, none⟩) xs.length xs.length) xs.length cs ∧ Below w.heap.size w wr) (fun i _ => xs.length - (intOf i).toNat)
  case atStart => exact ⟨0, _, Nat.zero_le _, rfl, by simp, own0, hB0⟩
  case round =>
    clear own0 hB0
    obtain ⟨k, cs, hk, rfl, ht, own, hb⟩ := hrel
    by_cases hlt : k < xs.length
    · obtain ⟨b1, o1, rfl, hb1, hc1⟩ := h.cells (by omega)
      have e1 : xs[k]? = some xs[k] := List.getElem?_eq_getElem hlt
      have Hp := hid e1
      clear e1
      generalize xs[k] = p at *
      obtain ⟨x_, y_, k_, t_, d_⟩ := p
      have f0 : wr.cell? ⟨b1, o1 + k * 5, none⟩ = some (.int .i8 x_) := (hb.cell (p := ⟨b1, _, none⟩) hb1).trans (hc1 k _ Hp.out 0 _ rfl)
      have f1 : wr.cell? ⟨b1, o1 + k * 5 + 1, none⟩ = some (.int .i8 y_) := (hb.cell (p := ⟨b1, _, none⟩) hb1).trans (hc1 k _ Hp.out 1 _ rfl)
      have f2 : wr.cell? ⟨b1, o1 + k * 5 + 2, none⟩ = some (.int .i8 k_) := (hb.cell (p := ⟨b1, _, none⟩) hb1).trans (hc1 k _ Hp.out 2 _ rfl)
      have f3 : wr.cell? ⟨b1, o1 + k * 5 + 3, none⟩ = some (.int .i8 t_) := (hb.cell (p := ⟨b1, _, none⟩) hb1).trans (hc1 k _ Hp.out 3 _ rfl)
      have f4 : wr.cell? ⟨b1, o1 + k * 5 + 4, none⟩ = some (.int .i8 d_) := (hb.cell (p := ⟨b1, _, none⟩) hb1).trans (hc1 k _ Hp.out 4 _ rfl)
      have Ho := hid own
      have Ht := hid ht
      have Hb := hid hb
      clear hc1 own ht hb
      have hts := fun W => to_Pc_L ⟨x_, y_, k_, t_, d_⟩ W
      simp only [Pc.enc] at hts
      have Hts := hid hts
      clear hts
      go_wp2_with fail
      refine (Hts.out _).mono ?_
      rintro e w1 ⟨rfl, hb9⟩
      have own1 := own_step Ho.out hb9
      have hcs : cs.length = xs.length * 5 := own1.1
      have c0 : w1.cell? ⟨g, k * 5, none⟩ = some (cs.getD (k * 5) undef) := (own1.cellAt _ (by omega)).trans (getD_some (by omega))
      have z0 : w1.frozen? ⟨g, k * 5, none⟩ = false := own1.frozenAt _
      have c1 : w1.cell? ⟨g, k * 5 + 1, none⟩ = some (cs.getD (k * 5 + 1) undef) := (own1.cellAt _ (by omega)).trans (getD_some (by omega))
      have z1 : w1.frozen? ⟨g, k * 5 + 1, none⟩ = false := own1.frozenAt _
      have c2 : w1.cell? ⟨g, k * 5 + 2, none⟩ = some (cs.getD (k * 5 + 2) undef) := (own1.cellAt _ (by omega)).trans (getD_some (by omega))
      have z2 : w1.frozen? ⟨g, k * 5 + 2, none⟩ = false := own1.frozenAt _
      have c3 : w1.cell? ⟨g, k * 5 + 3, none⟩ = some (cs.getD (k * 5 + 3) undef) := (own1.cellAt _ (by omega)).trans (getD_some (by omega))
      have z3 : w1.frozen? ⟨g, k * 5 + 3, none⟩ = false := own1.frozenAt _
      have c4 : w1.cell? ⟨g, k * 5 + 4, none⟩ = some (cs.getD (k * 5 + 4) undef) := (own1.cellAt _ (by omega)).trans (getD_some (by omega))
      have z4 : w1.frozen? ⟨g, k * 5 + 4, none⟩ = false := own1.frozenAt _
      have Ho1 := hid own1
      have Hcs := hid hcs
      clear own1 hcs
      go_wp2_with fail
      have h0 : _ ∧ _ := Ho1.out.stored (k * 5) (.int .i8 x_)
      have h1 : _ ∧ _ := h0.1.stored (k * 5 + 1) (.int .i8 y_)
      have h2 : _ ∧ _ := h1.1.stored (k * 5 + 2) (.int .i8 k_)
      have h3 : _ ∧ _ := h2.1.stored (k * 5 + 3) (.int .i8 t_)
      have h4 : _ ∧ _ := h3.1.stored (k * 5 + 4) (.int .i8 d_)
      refine ⟨⟨k + 1, _, by omega, by go_num, flat_take (en := Pc.enc) (fun _ => rfl) Hp.out Hcs.out Ht.out, h4.1, ?_⟩, by simp [intOf]; omega⟩
      exact (((((below_of Hb.out Hb.out.size hb9).setCell (by rw [Hg.out]; exact Nat.le_refl _) _).setCell (by rw [Hg.out]; exact Nat.le_refl _) _).setCell (by rw [Hg.out]; exact Nat.le_refl _) _).setCell (by rw [Hg.out]; exact Nat.le_refl _) _).setCell (by rw [Hg.out]; exact Nat.le_refl _) _
    · obtain rfl : k = xs.length := by omega
      have Ho := hid own
      have Ht := hid ht
      clear own ht
      go_wp2_with fail
      go_ret
      have hcs : cs.length = xs.length * 5 := Ho.out.1
      have e : cs = xs.flatMap Pc.enc := by
        have := Ht.out
        rw [List.take_of_length_le (by omega), List.take_length] at this
        exact this
      exact ⟨g, rfl, hb, by rw [← e]; exact Ho.out⟩
theorem sz_Pc_L (a : Option Addr) (n c : Nat) (left : Int) (w : World) (h0 : 0 ≤ left) (h1 : left ≤ 1048576) (hn : n ≤ 9223372036854775807) :
    Calls Try.prog 28 #[.slice a n c, .int .i64 left] w fun e w' => e = .returned (.int .i64 (if left - n < 0 then -1 else left - n)) ∧ w = w' := by
  go_enter Try.func28, Try.ntmps28
  go_wp2
  all_goals go_ret
  all_goals exact ⟨ret_int (by first | omega | (split <;> omega)), rfl⟩
set_option maxHeartbeats 400000 in
theorem eq_Pc_L (p q : Pc) (w : World) :
    Calls Try.prog 77 #[.agg p.enc.toArray, .agg q.enc.toArray] w fun e w' => e = .returned (.bool (decide (p = q))) ∧ Below w.heap.size w w' := by
  obtain ⟨x_, y_, k_, t_, d_⟩ := p
  obtain ⟨x_', y_', k_', t_', d_'⟩ := q
  simp only [Pc.enc] at *
  have Hq0 := hid (eq_Ce_L x_ y_ x_' y_')
  generalize hd0 : decide (x_ = x_' ∧ y_ = y_') = d0 at *
  have Hd0 := hid hd0
  clear hd0
  cases d0
  all_goals
    go_enter Try.func77, Try.ntmps77
    go_wp2_with fail
    refine (Hq0.out _).mono ?_
    rintro e w0 ⟨rfl, hb0⟩
    have hz0 := hb0.size
    simp only [World.size_alloc] at hz0
    obtain ⟨hc0, hf0⟩ := bcell hb0
    have s01 : w.heap.size < w0.heap.size := by omega
    have s02 : w.heap.size + 1 < w0.heap.size := by omega
    go_wp2
  all_goals go_ret
  all_goals refine ⟨ret_bool ?_, below_of (((Below.refl _ _).alloc (Nat.le_refl _) _).alloc (by simp) _) (by simp; omega) hb0⟩
  all_goals (have h9 := Hd0.out; simp_all [Pc.mk.injEq])
set_option maxHeartbeats 400000 in
theorem eqS_Pc_L (a b : Option Addr) (c d : Nat) (xs ys : List Pc) (w : World) (ha : SlA Pc.enc 5 w a xs) (hb : SlA Pc.enc 5 w b ys) :
    Calls Try.prog 36 #[.slice a xs.length c, .slice b ys.length d] w fun e w' => e = .returned (.bool (decide (xs = ys))) ∧ Below w.heap.size w w' := by
  have sa := ha.small
  have sb := hb.small
  by_cases hl : xs.length = ys.length
  · have hl1 : ((xs.length : Int) != ys.length) = false := by simp [hl]
    go_enter Try.func36, Try.ntmps36
    go_wp2_with fail
    go_loopw [5] (fun i wr => ∃ k : Nat, k ≤ xs.length ∧ i = .int .i64 k ∧ xs.take k = ys.take k ∧ Below w.heap.size w wr) (fun i _ => xs.length - (intOf i).toNat)
    case atStart => exact ⟨0, Nat.zero_le _, rfl, rfl, Below.refl _ _⟩
    case round =>
      obtain ⟨k, hk, rfl, ht, hbl⟩ := hrel
      by_cases hlt : k < xs.length
      · obtain ⟨b1, o1, rfl, hb1, hc1⟩ := ha.cells (by omega)
        obtain ⟨b2, o2, rfl, hb2, hc2⟩ := hb.cells (by omega)
        have hly : k < ys.length := by omega
        have e1 : xs[k]? = some xs[k] := List.getElem?_eq_getElem hlt
        have e2 : ys[k]? = some ys[k] := List.getElem?_eq_getElem hly
        have Hp := hid e1
        have Hq := hid e2
        have HT := hid ht
        have HL := hid hl
        clear ht hl e1 e2
        generalize xs[k] = p at *
        generalize ys[k] = q at *
        have f0 : w.cell? ⟨b1, o1 + k * 5, none⟩ = some (.int .i8 p.x) := hc1 k _ Hp.out 0 _ rfl
        have f1 : w.cell? ⟨b1, o1 + k * 5 + 1, none⟩ = some (.int .i8 p.y) := hc1 k _ Hp.out 1 _ rfl
        have f2 : w.cell? ⟨b1, o1 + k * 5 + 2, none⟩ = some (.int .i8 p.k) := hc1 k _ Hp.out 2 _ rfl
        have f3 : w.cell? ⟨b1, o1 + k * 5 + 3, none⟩ = some (.int .i8 p.t) := hc1 k _ Hp.out 3 _ rfl
        have f4 : w.cell? ⟨b1, o1 + k * 5 + 4, none⟩ = some (.int .i8 p.d) := hc1 k _ Hp.out 4 _ rfl
        have g0 : w.cell? ⟨b2, o2 + k * 5, none⟩ = some (.int .i8 q.x) := hc2 k _ Hq.out 0 _ rfl
        have g1 : w.cell? ⟨b2, o2 + k * 5 + 1, none⟩ = some (.int .i8 q.y) := hc2 k _ Hq.out 1 _ rfl
        have g2 : w.cell? ⟨b2, o2 + k * 5 + 2, none⟩ = some (.int .i8 q.k) := hc2 k _ Hq.out 2 _ rfl
        have g3 : w.cell? ⟨b2, o2 + k * 5 + 3, none⟩ = some (.int .i8 q.t) := hc2 k _ Hq.out 3 _ rfl
        have g4 : w.cell? ⟨b2, o2 + k * 5 + 4, none⟩ = some (.int .i8 q.d) := hc2 k _ Hq.out 4 _ rfl
        obtain ⟨hcw, hfw⟩ := bcell hbl
        have hz := hbl.size
        have hb1w : b1 < wr.heap.size := by omega
        have hb2w : b2 < wr.heap.size := by omega
        clear hc1 hc2
        have Heq := hid (eq_Pc_L p q)
        generalize hd : decide (p = q) = d1 at *
        have Hd := hid hd
        clear hd
        have hL := @later_cell wr
        go_wp2_with fail
        refine wp_region_later (by kernel_rfl) (by kernel_rfl) ?_
        repeat (first | go_big_quiet_skip | (go_big_quiet_want; go_big_quiet_op; first | go_big_quiet_on | (apply Exists.intro; refine ⟨fun _ => ?_, ?_⟩; (go_at_call 77; exact quiet_later (Heq.out _)); go_big_quiet_on)))
        refine wpQuiet_nil ?_
        intro x
        cases d1
        · go_wp2_with fail
          go_ret
          refine ⟨ret_bool ?_, below_of hbl hz x.below⟩
          have hne : p ≠ q := of_decide_eq_false Hd.out
          rw [eq_comm, decide_eq_false_iff_not]
          intro e
          apply hne
          have h1 := Hp.out
          rw [e] at h1
          exact Option.some.inj (h1.symm.trans Hq.out)
        · go_wp2_with fail
          have heq : p = q := of_decide_eq_true Hd.out
          refine ⟨⟨k + 1, by omega, by go_num, ?_, below_of hbl hz x.below⟩, by simp [intOf]; omega⟩
          rw [List.take_add_one, List.take_add_one, HT.out, Hp.out, Hq.out, heq]
      · obtain rfl : k = xs.length := by omega
        have HT := hid ht
        have HL := hid hl
        clear ht hl
        go_wp2_with fail
        go_ret
        refine ⟨ret_bool ?_, hbl⟩
        rw [eq_comm, decide_eq_true_iff]
        have := HT.out
        rw [List.take_length, HL.out, List.take_length] at this
        exact this
  · have hl1 : ((xs.length : Int) != ys.length) = true := by rw [bne_iff_ne]; omega
    have HL := hid hl
    clear hl
    go_enter Try.func36, Try.ntmps36
    go_wp2_with fail
    go_ret
    refine ⟨ret_bool ?_, Below.refl _ _⟩
    rw [eq_comm, decide_eq_false_iff_not]
    intro e
    exact HL.out (by rw [e])
def Pc.mk_ (k : Int) : Pc := ⟨IntKind.i8.wrap (k), IntKind.i8.wrap (k + 1), IntKind.i8.wrap (k + 1 + 1), IntKind.i8.wrap (k + 1 + 1 + 1), IntKind.i8.wrap (k + 1 + 1 + 1 + 1)⟩
set_option maxHeartbeats 400000 in
theorem markS_Pc_L (base : Nat) (A : Option Addr) (c : Nat) (xs : List Pc) (k0 : Int) (w : World) (h : w.ownsRow base 98 5 (.slice A xs.length c) xs.length (xs.flatMap Pc.enc)) (h0 : 0 ≤ k0) (h1 : k0 ≤ 1099511627776) (hs : xs.length ≤ 1073741824) :
    Calls Try.prog 37 #[.slice A xs.length c, .int .i64 k0] w fun e w' => e = .returned (.int .i64 (k0 + 5 * xs.length)) ∧ w.grownBy w' (A.map (·.block)) ∧ w'.ownsRow base 98 5 (.slice A xs.length c) xs.length ((markL Pc.mk_ 5 xs.length k0).flatMap Pc.enc) := by
  go_enter Try.func37, Try.ntmps37
  go_wp2_with fail
  go_loopw [1, 5] (fun kv i wr => ∃ (k : Nat) (cs : List Value), k ≤ xs.length ∧ kv = .int .i64 (k0 + 5 * k) ∧ i = .int .i64 k ∧ cs.take (k * 5) = ((markL Pc.mk_ 5 xs.length k0).take k).flatMap Pc.enc ∧ wr.ownsRow base 98 5 (.slice A xs.length c) xs.length cs ∧ w.grownBy wr (A.map (·.block))) (fun _ i _ => xs.length - (intOf i).toNat)
  case atStart => exact ⟨0, _, Nat.zero_le _, by go_num, rfl, by simp, h, World.grownBy.refl _ _⟩
  case round =>
    obtain ⟨k, cs, hk, rfl, rfl, ht, own, hg⟩ := hrel
    obtain ⟨q, hq⟩ : ∃ q : Int, q = k0 + 5 * k := ⟨_, rfl⟩
    have hq0 : 0 ≤ q := by omega
    have hq1 : q ≤ 1099511627776 + 5 * 1073741824 := by omega
    have Hq := hid hq
    by_cases hlt : k < xs.length
    · obtain ⟨g, rfl⟩ : ∃ g, A = some ⟨g, 0, none⟩ := by
        obtain ⟨g, cap', hv, _, _⟩ := own.form (by omega)
        injection hv with hv1
        exact ⟨g, hv1⟩
      have hp : (markL Pc.mk_ 5 xs.length k0)[k]? = some (Pc.mk_ q) := by rw [markL_get _ _ _ _ _ hlt, hq]; rfl
      have hcs : cs.length = xs.length * 5 := own.1
      have c0 : wr.cell? ⟨g, k * 5, none⟩ = some (cs.getD (k * 5) undef) := (own.cellAt _ (by omega)).trans (getD_some (by omega))
      have z0 : wr.frozen? ⟨g, k * 5, none⟩ = false := own.frozenAt _
      have c1 : wr.cell? ⟨g, k * 5 + 1, none⟩ = some (cs.getD (k * 5 + 1) undef) := (own.cellAt _ (by omega)).trans (getD_some (by omega))
      have z1 : wr.frozen? ⟨g, k * 5 + 1, none⟩ = false := own.frozenAt _
      have c2 : wr.cell? ⟨g, k * 5 + 2, none⟩ = some (cs.getD (k * 5 + 2) undef) := (own.cellAt _ (by omega)).trans (getD_some (by omega))
      have z2 : wr.frozen? ⟨g, k * 5 + 2, none⟩ = false := own.frozenAt _
      have c3 : wr.cell? ⟨g, k * 5 + 3, none⟩ = some (cs.getD (k * 5 + 3) undef) := (own.cellAt _ (by omega)).trans (getD_some (by omega))
      have z3 : wr.frozen? ⟨g, k * 5 + 3, none⟩ = false := own.frozenAt _
      have c4 : wr.cell? ⟨g, k * 5 + 4, none⟩ = some (cs.getD (k * 5 + 4) undef) := (own.cellAt _ (by omega)).trans (getD_some (by omega))
      have z4 : wr.frozen? ⟨g, k * 5 + 4, none⟩ = false := own.frozenAt _
      have Ho := hid own
      have Ht := hid ht
      have Hg := hid hg
      have Hp := hid hp
      have Hcs := hid hcs
      rw [← hq]
      clear own ht hg hp hcs hq h
      go_wp2_with fail
      refine wp_loop_rounds 3 ?_
      rw [rounds_succ]
      go_wp2_with fail
      rw [rounds_succ]
      go_wp2_with fail
      rw [rounds_succ]
      go_wp2_with fail
      have h0 : _ ∧ _ := Ho.out.stored (k * 5) (.int .i8 (IntKind.i8.wrap (q)))
      have h1 : _ ∧ _ := h0.1.stored (k * 5 + 1) (.int .i8 (IntKind.i8.wrap (q + 1)))
      have h2 : _ ∧ _ := h1.1.stored (k * 5 + 2) (.int .i8 (IntKind.i8.wrap (q + 1 + 1)))
      have h3 : _ ∧ _ := h2.1.stored (k * 5 + 3) (.int .i8 (IntKind.i8.wrap (q + 1 + 1 + 1)))
      have h4 : _ ∧ _ := h3.1.stored (k * 5 + 4) (.int .i8 (IntKind.i8.wrap (q + 1 + 1 + 1 + 1)))
      refine ⟨⟨k + 1, _, by omega, ?_, by go_num, flat_take (en := Pc.enc) (fun _ => rfl) Hp.out (by rw [markL_length]; exact Hcs.out) Ht.out, h4.1, ?_⟩, by simp [intOf]; omega⟩
      · have := Hq.out
        congr 1; omega
      · exact World.grownBy.trans (World.grownBy.trans (World.grownBy.trans (World.grownBy.trans (World.grownBy.trans (Hg.out) h0.2) h1.2) h2.2) h3.2) h4.2
    · obtain rfl : k = xs.length := by omega
      have Ho := hid own
      have Ht := hid ht
      rw [← hq]
      clear own ht hq h
      go_wp2_with fail
      go_ret
      have hcs : cs.length = xs.length * 5 := Ho.out.1
      have e : cs = (markL Pc.mk_ 5 xs.length k0).flatMap Pc.enc := by
        have := Ht.out
        rw [List.take_of_length_le (by omega), List.take_of_length_le (by rw [markL_length]; exact Nat.le_refl _)] at this
        exact this
      exact ⟨ret_int Hq.out, hg, by rw [← e]; exact Ho.out⟩
set_option maxHeartbeats 400000 in
theorem heldS_Pc_L (a : Option Addr) (c m : Nat) (k0 : Int) (w : World) (h : SlA Pc.enc 5 w a (markL Pc.mk_ 5 m k0)) (h0 : 0 ≤ k0) (h1 : k0 ≤ 1099511627776) (hs : m ≤ 1073741824) :
    Calls Try.prog 38 #[.slice a m c, .int .i64 k0] w fun e w' => e = .returned (.int .i64 (k0 + 5 * m)) ∧ w = w' := by
  go_enter Try.func38, Try.ntmps38
  go_wp2_with fail
  go_loop [1, 5] (fun kv i => ∃ (k : Nat), k ≤ m ∧ kv = .int .i64 (k0 + 5 * k) ∧ i = .int .i64 k) (fun _ i => m - (intOf i).toNat)
  case atStart => exact ⟨0, Nat.zero_le _, by go_num, rfl⟩
  case round =>
    obtain ⟨k, hk, rfl, rfl⟩ := hrel
    obtain ⟨q, hq⟩ : ∃ q : Int, q = k0 + 5 * k := ⟨_, rfl⟩
    have hq0 : 0 ≤ q := by omega
    have hq1 : q ≤ 1099511627776 + 5 * 1073741824 := by omega
    have Hq := hid hq
    rw [← hq]
    by_cases hlt : k < m
    · obtain ⟨b1, o1, rfl, hb1, hc1⟩ := h.cells (by rw [markL_length]; omega)
      have hp : (markL Pc.mk_ 5 m k0)[k]? = some (Pc.mk_ q) := by rw [markL_get _ _ _ _ _ hlt, hq]; rfl
      have f0 : w.cell? ⟨b1, o1 + k * 5, none⟩ = some (.int .i8 (IntKind.i8.wrap (q))) := hc1 k _ hp 0 _ rfl
      have f1 : w.cell? ⟨b1, o1 + k * 5 + 1, none⟩ = some (.int .i8 (IntKind.i8.wrap (q + 1))) := hc1 k _ hp 1 _ rfl
      have f2 : w.cell? ⟨b1, o1 + k * 5 + 2, none⟩ = some (.int .i8 (IntKind.i8.wrap (q + 1 + 1))) := hc1 k _ hp 2 _ rfl
      have f3 : w.cell? ⟨b1, o1 + k * 5 + 3, none⟩ = some (.int .i8 (IntKind.i8.wrap (q + 1 + 1 + 1))) := hc1 k _ hp 3 _ rfl
      have f4 : w.cell? ⟨b1, o1 + k * 5 + 4, none⟩ = some (.int .i8 (IntKind.i8.wrap (q + 1 + 1 + 1 + 1))) := hc1 k _ hp 4 _ rfl
      clear hc1 hp hq h
      go_wp2_with fail
      refine wp_loop_rounds 3 ?_
      rw [rounds_succ]
      go_wp2_with fail
      rw [rounds_succ]
      go_wp2_with fail
      rw [rounds_succ]
      go_wp2_with fail
      refine ⟨⟨k + 1, by omega, ?_, by go_num⟩, by simp [intOf]; omega⟩
      have := Hq.out
      congr 1; omega
    · obtain rfl : k = m := by omega
      clear hq h
      go_wp2_with fail
      go_ret
      exact ⟨ret_int Hq.out, rfl⟩
theorem sz_Bd_L (wi hi : Int) (a : Option Addr) (n c : Nat) (left : Int) (w : World) (h0 : 0 ≤ left) (h1 : left ≤ 1048576) (hn : n ≤ 9223372036854775807) :
    Calls Try.prog 7 #[.agg #[.int .i8 wi, .int .i8 hi, .slice a n c], .int .i64 left] w fun e w' => e = .returned (.int .i64 (if left - n < 0 then -1 else left - n)) ∧ Below w.heap.size w w' := by
  obtain ⟨r, hr⟩ : ∃ r : Int, (if left - n < 0 then -1 else left - n) = r := ⟨_, rfl⟩
  have hr0 : r < 0 → r = -1 := by intro h; split at hr <;> omega
  have Hs := hid (fun W => sz_Pc_L a n c left W h0 h1 hn)
  rw [hr] at Hs
  rw [hr]
  have Hr := hid hr0
  clear hr hr0
  go_enter Try.func7, Try.ntmps7
  go_wp2_with (go_at_call 28; refine (Hs.out _).mono ?_; rintro e w1 ⟨rfl, rfl⟩)
  · go_ret
    exact ⟨ret_int (Hr.out (by assumption)).symm, (Below.refl _ _).alloc (Nat.le_refl _) _⟩
  · go_ret
    exact ⟨rfl, (Below.refl _ _).alloc (Nat.le_refl _) _⟩
theorem to_Bd_L (wi hi : Int) (a : Option Addr) (c : Nat) (xs : List Pc) (w : World) (h : SlA Pc.enc 5 w a xs) (hs : xs.length ≤ 1048576) :
    Calls Try.prog 9 #[.agg #[.int .i8 wi, .int .i8 hi, .slice a xs.length c]] w fun e w' => ∃ g, e = .returned (.agg #[.int .i8 wi, .int .i8 hi, .slice (some ⟨g, 0, none⟩) xs.length xs.length]) ∧ Below w.heap.size w w' ∧ w'.ownsRow w.heap.size 98 5 (.slice (some ⟨g, 0, none⟩) xs.length xs.length) xs.length (xs.flatMap Pc.enc) := by
  have Hs := hid (fun W h => toS_Pc_L a c xs W h hs)
  go_enter Try.func9, Try.ntmps9
  go_wp2_with fail
  refine (Hs.out _ (h.below ((((Below.refl _ _).alloc (Nat.le_refl _) _).alloc (by simp) _).alloc (by simp; omega) _))).mono ?_
  rintro e w1 ⟨g, rfl, hb1, own⟩
  have hz := hb1.size
  simp only [World.size_alloc, World.size_setCell] at hz
  obtain ⟨hc1, hf1⟩ := bcell hb1
  have s1 : w.heap.size < w1.heap.size := by omega
  have s2 : w.heap.size + 1 < w1.heap.size := by omega
  have s3 : w.heap.size + 1 + 1 < w1.heap.size := by omega
  have Ho := hid own
  clear own
  go_wp2_with fail
  refine bodyPost_ret (v := .agg #[.int .i8 wi, .int .i8 hi, .slice (some ⟨g, 0, none⟩) xs.length xs.length]) (by simp [results, Try.results9, go_sem, hc1, s1, s2, s3]) rfl ⟨g, rfl, ?_, ?_⟩
  · repeat (refine Below.setCell ?_ (by simp; try omega) _)
    exact below_of ((((Below.refl _ _).alloc (Nat.le_refl _) _).alloc (by simp) _).alloc (by simp; omega) _) (by simp; omega) hb1
  · have own := Ho.out
    simp only [World.size_alloc, World.size_setCell] at own
    have low : w1.ownsRow w.heap.size 98 5 (.slice (some ⟨g, 0, none⟩) xs.length xs.length) xs.length (xs.flatMap Pc.enc) := by
      refine ⟨own.1, ?_⟩
      rcases own.2 with h | ⟨g', cap, cur, hv, hg, r⟩
      · exact .inl h
      · exact .inr ⟨g', cap, cur, hv, by omega, r⟩
    have hgb : w.heap.size + 1 + 1 + 1 ≤ g := by
      rcases own.2 with h | ⟨g', cap, cur, hv, hg, r⟩
      · cases h.1
      · injection hv with hv; injection hv with hv; injection hv with hv; omega
    have far : ∀ (W : World) (p : Addr) (u : Value), W.ownsRow w.heap.size 98 5 (.slice (some ⟨g, 0, none⟩) xs.length xs.length) xs.length (xs.flatMap Pc.enc) → p.block ≠ g → (W.setCell p u).ownsRow w.heap.size 98 5 (.slice (some ⟨g, 0, none⟩) xs.length xs.length) xs.length (xs.flatMap Pc.enc) := fun W p u h hne =>
      h.kept (row := some p.block) ⟨rfl, rfl, rfl, by simp, fun k _ hk => heap_setCell_other W p k u (fun e => hk (by simp [e]))⟩ (.inr (by simp [Value.ownBlock]; omega))
    repeat (refine far _ _ _ ?_ (by simp; omega))
    exact low
set_option maxHeartbeats 400000 in
theorem eq_Bd_L (wi hi wj hj : Int) (a b : Option Addr) (c d : Nat) (xs ys : List Pc) (w : World) (ha : SlA Pc.enc 5 w a xs) (hb : SlA Pc.enc 5 w b ys) :
    Calls Try.prog 12 #[.agg #[.int .i8 wi, .int .i8 hi, .slice a xs.length c], .agg #[.int .i8 wj, .int .i8 hj, .slice b ys.length d]] w fun e w' => e = .returned (.bool (decide (wi = wj ∧ hi = hj ∧ xs = ys))) ∧ Below w.heap.size w w' := by
  have B0 : ∀ o1 o2, Below w.heap.size w ((w.alloc o1).alloc o2) := fun o1 o2 => ((Below.refl _ _).alloc (Nat.le_refl _) _).alloc (by simp) _
  have Hs := hid (fun o1 o2 => eqS_Pc_L a b c d xs ys ((w.alloc o1).alloc o2) (ha.below (B0 o1 o2)) (hb.below (B0 o1 o2)))
  have HB := hid B0
  clear B0 ha hb
  obtain ⟨d0, hd0⟩ : ∃ d0, decide (xs = ys) = d0 := ⟨_, rfl⟩
  rw [hd0] at Hs
  have Hd := hid hd0
  clear hd0
  go_enter Try.func12, Try.ntmps12
  go_wp2_with (go_at_call 36; refine (Hs.out _ _).mono ?_; rintro e w1 ⟨rfl, hb1⟩)
  all_goals go_ret
  · refine ⟨ret_bool ?_, HB.out _ _⟩
    rename_i h
    have : wi ≠ wj := by simpa using h
    simp [this]
  · refine ⟨ret_bool ?_, HB.out _ _⟩
    have : hi ≠ hj := by rename_i h; simpa using h
    simp [this]
  all_goals
    refine ⟨ret_bool ?_, below_of (HB.out _ _) (by simp; omega) hb1⟩
    have h9 := Hd.out
    simp_all
theorem markS_Bd_L (base : Nat) (wi hi : Int) (A : Option Addr) (c : Nat) (xs : List Pc) (k0 : Int) (w : World) (h : w.ownsRow base 98 5 (.slice A xs.length c) xs.length (xs.flatMap Pc.enc)) (h0 : 0 ≤ k0) (h1 : k0 ≤ 1099511627776) (hs : xs.length ≤ 1073741824) :
    Calls Try.prog 13 #[.agg #[.int .i8 wi, .int .i8 hi, .slice A xs.length c], .int .i64 k0] w fun e w' => e = .returned (.int .i64 (k0 + 5 * xs.length)) ∧ w.grownBy w' (A.map (·.block)) ∧ w'.ownsRow base 98 5 (.slice A xs.length c) xs.length ((markL Pc.mk_ 5 xs.length k0).flatMap Pc.enc) := by
  have Hs := hid (fun o => markS_Pc_L base A c xs k0 (w.alloc o) (h.alloc o) h0 h1 hs)
  clear h
  go_enter Try.func13, Try.ntmps13
  go_wp2_with fail
  refine (Hs.out _).mono ?_
  rintro e w1 ⟨rfl, hg, own⟩
  have Ho := hid own
  have Hg := hid hg
  clear own hg
  go_wp2_with fail
  go_ret
  exact ⟨rfl, World.grownBy.trans (World.grownBy_alloc w _ _) Hg.out, Ho.out⟩
theorem heldS_Bd_L (wi hi : Int) (a : Option Addr) (c m : Nat) (k0 : Int) (w : World) (h : SlA Pc.enc 5 w a (markL Pc.mk_ 5 m k0)) (h0 : 0 ≤ k0) (h1 : k0 ≤ 1099511627776) (hs : m ≤ 1073741824) :
    Calls Try.prog 14 #[.agg #[.int .i8 wi, .int .i8 hi, .slice a m c], .int .i64 k0] w fun e w' => e = .returned (.int .i64 (k0 + 5 * m)) ∧ Below w.heap.size w w' := by
  have Hs := hid (fun o => heldS_Pc_L a c m k0 (w.alloc o) (h.below ((Below.refl _ _).alloc (Nat.le_refl _) o)) h0 h1 hs)
  clear h
  obtain ⟨r, hr⟩ : ∃ r : Int, k0 + 5 * m = r := ⟨_, rfl⟩
  rw [hr] at Hs
  have hr0 : 0 ≤ r := by omega
  rw [hr]
  clear hr
  go_enter Try.func14, Try.ntmps14
  go_wp2_with fail
  refine (Hs.out _).mono ?_
  rintro e w1 ⟨rfl, rfl⟩
  go_wp2_with fail
  go_ret
  exact ⟨rfl, (Below.refl _ _).alloc (Nat.le_refl _) _⟩
end Go.Proofs.Ytgkgklgeobbmlaa
