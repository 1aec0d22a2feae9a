/-
  The laws' own helpers over Push: copies, sizes, comparisons, marks.
  Conditions: lengths up to a bound where memory is made.
-/
import Derived.Test.YtnabedhhflfepaaProg
import Derived.Test.YtnabedhhflfepaaData
import Derived.Test.YtnabedhhflfepaaConvBd
namespace Go.Proofs.Ytnabedhhflfepaa
open Go.RowKit
set_option linter.unusedSimpArgs false

theorem to_Pu_L (p : Pu) (w : World) :
    Calls Try.prog 22 #[.agg p.enc.toArray] w fun e w' => e = .returned (.agg p.enc.toArray) ∧ Below w.heap.size w w' := by
  obtain ⟨x_, y_, s_, t_⟩ := p
  simp only [Pu.enc] at *
  go_enter Try.func22, Try.ntmps22
  go_wp2_with fail
  refine (to_Ce_L x_ y_ _).mono ?_
  rintro e w0 ⟨rfl, hb0⟩
  have hz0 := hb0.size
  simp only [World.size_alloc, World.size_setCell] at hz0
  obtain ⟨hc0, hf0⟩ := bcell hb0
  have s01 : w.heap.size < w0.heap.size := by omega
  have s02 : w.heap.size + 1 < w0.heap.size := by omega
  have s03 : w.heap.size + 1 + 1 < w0.heap.size := by omega
  go_wp2_with fail
  refine bodyPost_ret (v := .agg #[.int .i8 x_, .int .i8 y_, .int .i8 s_, .int .i16 t_]) (by simp [results, Try.results22, go_sem, hc0, s01, s02, s03]) rfl ⟨rfl, ?_⟩
  repeat (refine Below.setCell ?_ (by simp; try omega) _)
  exact below_of ((((Below.refl _ _).alloc (Nat.le_refl _) _).alloc (by simp) _).alloc (by simp; omega) _) (by simp; omega) hb0
set_option maxHeartbeats 400000 in
theorem toS_Pu_L (a : Option Addr) (c : Nat) (xs : List Pu) (w : World) (h : SlA Pu.enc 4 w a xs) (hs : xs.length ≤ 1048576) :
    Calls Try.prog 8 #[.slice a xs.length c] w fun e w' => ∃ g, e = .returned (.slice (some ⟨g, 0, none⟩) xs.length xs.length) ∧ Below w.heap.size w w' ∧ w'.ownsRow w.heap.size 60 4 (.slice (some ⟨g, 0, none⟩) xs.length xs.length) xs.length (xs.flatMap Pu.enc) := by
  have hmk := make_any (P := Try.prog) 35 60 (.agg Pu.z.enc.toArray) 4 6 Try.underlying35 (by kernel_rfl) xs.length (by omega) (by omega)
  go_enter Try.func8, Try.ntmps8
  go_wp2_with fail
  obtain ⟨g, hg, own0⟩ : ∃ g, g = w.heap.size ∧ (w.alloc (Obj.cells (madeCells Pu.z.enc.toArray (xs.length * 4)) 60)).ownsRow w.heap.size 60 4 (.slice (some ⟨g, 0, none⟩) xs.length xs.length) xs.length (madeCells Pu.z.enc.toArray (xs.length * 4)).toList :=
    ⟨_, rfl, World.ownsRow_lit w _ _ (Nat.le_refl _) (by simp only [maxLen]; omega) (size_madeCells _ _)⟩
  rw [← hg]
  have hB0 : Below w.heap.size w (w.alloc (Obj.cells (madeCells Pu.z.enc.toArray (xs.length * 4)) 60)) := (Below.refl _ _).alloc (Nat.le_refl _) _
  have Hg := hid hg
  clear hg hmk
  go_loopw [4] (fun i wr => ∃ (k : Nat) (cs : List Value), k ≤ xs.length ∧ i = .int .i64 k ∧ cs.take (k * 4) = (xs.take k).flatMap Pu.enc ∧ wr.ownsRow w.heap.size 60 4 (.slice (some ⟨g, 0, none⟩) xs.length xs.length) xs.length cs ∧ Below w.heap.size w wr) (fun i _ => xs.length - (intOf i).toNat)
  case atStart => exact ⟨0, _, Nat.zero_le _, rfl, by simp, own0, hB0⟩
  case round =>
    clear own0 hB0
    obtain ⟨k, cs, hk, rfl, ht, own, hb⟩ := hrel
    by_cases hlt : k < xs.length
    · obtain ⟨b1, o1, rfl, hb1, hc1⟩ := h.cells (by omega)
      have e1 : xs[k]? = some xs[k] := List.getElem?_eq_getElem hlt
      have Hp := hid e1
      clear e1
      generalize xs[k] = p at *
      obtain ⟨x_, y_, s_, t_⟩ := p
      have f0 : wr.cell? ⟨b1, o1 + k * 4, none⟩ = some (.int .i8 x_) := (hb.cell (p := ⟨b1, _, none⟩) hb1).trans (hc1 k _ Hp.out 0 _ rfl)
      have f1 : wr.cell? ⟨b1, o1 + k * 4 + 1, none⟩ = some (.int .i8 y_) := (hb.cell (p := ⟨b1, _, none⟩) hb1).trans (hc1 k _ Hp.out 1 _ rfl)
      have f2 : wr.cell? ⟨b1, o1 + k * 4 + 2, none⟩ = some (.int .i8 s_) := (hb.cell (p := ⟨b1, _, none⟩) hb1).trans (hc1 k _ Hp.out 2 _ rfl)
      have f3 : wr.cell? ⟨b1, o1 + k * 4 + 3, none⟩ = some (.int .i16 t_) := (hb.cell (p := ⟨b1, _, none⟩) hb1).trans (hc1 k _ Hp.out 3 _ rfl)
      have Ho := hid own
      have Ht := hid ht
      have Hb := hid hb
      clear hc1 own ht hb
      have hts := fun W => to_Pu_L ⟨x_, y_, s_, t_⟩ W
      simp only [Pu.enc] at hts
      have Hts := hid hts
      clear hts
      go_wp2_with fail
      refine (Hts.out _).mono ?_
      rintro e w1 ⟨rfl, hb9⟩
      have own1 := own_step Ho.out hb9
      have hcs : cs.length = xs.length * 4 := own1.1
      have c0 : w1.cell? ⟨g, k * 4, none⟩ = some (cs.getD (k * 4) undef) := (own1.cellAt _ (by omega)).trans (getD_some (by omega))
      have z0 : w1.frozen? ⟨g, k * 4, none⟩ = false := own1.frozenAt _
      have c1 : w1.cell? ⟨g, k * 4 + 1, none⟩ = some (cs.getD (k * 4 + 1) undef) := (own1.cellAt _ (by omega)).trans (getD_some (by omega))
      have z1 : w1.frozen? ⟨g, k * 4 + 1, none⟩ = false := own1.frozenAt _
      have c2 : w1.cell? ⟨g, k * 4 + 2, none⟩ = some (cs.getD (k * 4 + 2) undef) := (own1.cellAt _ (by omega)).trans (getD_some (by omega))
      have z2 : w1.frozen? ⟨g, k * 4 + 2, none⟩ = false := own1.frozenAt _
      have c3 : w1.cell? ⟨g, k * 4 + 3, none⟩ = some (cs.getD (k * 4 + 3) undef) := (own1.cellAt _ (by omega)).trans (getD_some (by omega))
      have z3 : w1.frozen? ⟨g, k * 4 + 3, none⟩ = false := own1.frozenAt _
      have Ho1 := hid own1
      have Hcs := hid hcs
      clear own1 hcs
      go_wp2_with fail
      have h0 : _ ∧ _ := Ho1.out.stored (k * 4) (.int .i8 x_)
      have h1 : _ ∧ _ := h0.1.stored (k * 4 + 1) (.int .i8 y_)
      have h2 : _ ∧ _ := h1.1.stored (k * 4 + 2) (.int .i8 s_)
      have h3 : _ ∧ _ := h2.1.stored (k * 4 + 3) (.int .i16 t_)
      refine ⟨⟨k + 1, _, by omega, by go_num, flat_take (en := Pu.enc) (fun _ => rfl) Hp.out Hcs.out Ht.out, h3.1, ?_⟩, by simp [intOf]; omega⟩
      exact ((((below_of Hb.out Hb.out.size hb9).setCell (by rw [Hg.out]; exact Nat.le_refl _) _).setCell (by rw [Hg.out]; exact Nat.le_refl _) _).setCell (by rw [Hg.out]; exact Nat.le_refl _) _).setCell (by rw [Hg.out]; exact Nat.le_refl _) _
    · obtain rfl : k = xs.length := by omega
      have Ho := hid own
      have Ht := hid ht
      clear own ht
      go_wp2_with fail
      go_ret
      have hcs : cs.length = xs.length * 4 := Ho.out.1
      have e : cs = xs.flatMap Pu.enc := by
        have := Ht.out
        rw [List.take_of_length_le (by omega), List.take_length] at this
        exact this
      exact ⟨g, rfl, hb, by rw [← e]; exact Ho.out⟩
theorem sz_Pu_L (a : Option Addr) (n c : Nat) (left : Int) (w : World) (h0 : 0 ≤ left) (h1 : left ≤ 1048576) (hn : n ≤ 9223372036854775807) :
    Calls Try.prog 5 #[.slice a n c, .int .i64 left] w fun e w' => e = .returned (.int .i64 (if left - n < 0 then -1 else left - n)) ∧ w = w' := by
  go_enter Try.func5, Try.ntmps5
  go_wp2
  all_goals go_ret
  all_goals exact ⟨ret_int (by first | omega | (split <;> omega)), rfl⟩
set_option maxHeartbeats 400000 in
theorem eq_Pu_L (p q : Pu) (w : World) :
    Calls Try.prog 31 #[.agg p.enc.toArray, .agg q.enc.toArray] w fun e w' => e = .returned (.bool (decide (p = q))) ∧ Below w.heap.size w w' := by
  obtain ⟨x_, y_, s_, t_⟩ := p
  obtain ⟨x_', y_', s_', t_'⟩ := q
  simp only [Pu.enc] at *
  have Hq0 := hid (eq_Ce_L x_ y_ x_' y_')
  generalize hd0 : decide (x_ = x_' ∧ y_ = y_') = d0 at *
  have Hd0 := hid hd0
  clear hd0
  cases d0
  all_goals
    go_enter Try.func31, Try.ntmps31
    go_wp2_with fail
    refine (Hq0.out _).mono ?_
    rintro e w0 ⟨rfl, hb0⟩
    have hz0 := hb0.size
    simp only [World.size_alloc] at hz0
    obtain ⟨hc0, hf0⟩ := bcell hb0
    have s01 : w.heap.size < w0.heap.size := by omega
    have s02 : w.heap.size + 1 < w0.heap.size := by omega
    go_wp2
  all_goals go_ret
  all_goals refine ⟨ret_bool ?_, below_of (((Below.refl _ _).alloc (Nat.le_refl _) _).alloc (by simp) _) (by simp; omega) hb0⟩
  all_goals (have h9 := Hd0.out; simp_all [Pu.mk.injEq])
set_option maxHeartbeats 400000 in
theorem eqS_Pu_L (a b : Option Addr) (c d : Nat) (xs ys : List Pu) (w : World) (ha : SlA Pu.enc 4 w a xs) (hb : SlA Pu.enc 4 w b ys) :
    Calls Try.prog 11 #[.slice a xs.length c, .slice b ys.length d] w fun e w' => e = .returned (.bool (decide (xs = ys))) ∧ Below w.heap.size w w' := by
  have sa := ha.small
  have sb := hb.small
  by_cases hl : xs.length = ys.length
  · have hl1 : ((xs.length : Int) != ys.length) = false := by simp [hl]
    go_enter Try.func11, Try.ntmps11
    go_wp2_with fail
    go_loopw [5] (fun i wr => ∃ k : Nat, k ≤ xs.length ∧ i = .int .i64 k ∧ xs.take k = ys.take k ∧ Below w.heap.size w wr) (fun i _ => xs.length - (intOf i).toNat)
    case atStart => exact ⟨0, Nat.zero_le _, rfl, rfl, Below.refl _ _⟩
    case round =>
      obtain ⟨k, hk, rfl, ht, hbl⟩ := hrel
      by_cases hlt : k < xs.length
      · obtain ⟨b1, o1, rfl, hb1, hc1⟩ := ha.cells (by omega)
        obtain ⟨b2, o2, rfl, hb2, hc2⟩ := hb.cells (by omega)
        have hly : k < ys.length := by omega
        have e1 : xs[k]? = some xs[k] := List.getElem?_eq_getElem hlt
        have e2 : ys[k]? = some ys[k] := List.getElem?_eq_getElem hly
        have Hp := hid e1
        have Hq := hid e2
        have HT := hid ht
        have HL := hid hl
        clear ht hl e1 e2
        generalize xs[k] = p at *
        generalize ys[k] = q at *
        have f0 : w.cell? ⟨b1, o1 + k * 4, none⟩ = some (.int .i8 p.x) := hc1 k _ Hp.out 0 _ rfl
        have f1 : w.cell? ⟨b1, o1 + k * 4 + 1, none⟩ = some (.int .i8 p.y) := hc1 k _ Hp.out 1 _ rfl
        have f2 : w.cell? ⟨b1, o1 + k * 4 + 2, none⟩ = some (.int .i8 p.s) := hc1 k _ Hp.out 2 _ rfl
        have f3 : w.cell? ⟨b1, o1 + k * 4 + 3, none⟩ = some (.int .i16 p.t) := hc1 k _ Hp.out 3 _ rfl
        have g0 : w.cell? ⟨b2, o2 + k * 4, none⟩ = some (.int .i8 q.x) := hc2 k _ Hq.out 0 _ rfl
        have g1 : w.cell? ⟨b2, o2 + k * 4 + 1, none⟩ = some (.int .i8 q.y) := hc2 k _ Hq.out 1 _ rfl
        have g2 : w.cell? ⟨b2, o2 + k * 4 + 2, none⟩ = some (.int .i8 q.s) := hc2 k _ Hq.out 2 _ rfl
        have g3 : w.cell? ⟨b2, o2 + k * 4 + 3, none⟩ = some (.int .i16 q.t) := hc2 k _ Hq.out 3 _ rfl
        obtain ⟨hcw, hfw⟩ := bcell hbl
        have hz := hbl.size
        have hb1w : b1 < wr.heap.size := by omega
        have hb2w : b2 < wr.heap.size := by omega
        clear hc1 hc2
        have Heq := hid (eq_Pu_L p q)
        generalize hd : decide (p = q) = d1 at *
        have Hd := hid hd
        clear hd
        have hL := @later_cell wr
        go_wp2_with fail
        refine wp_region_later (by kernel_rfl) (by kernel_rfl) ?_
        repeat (first | go_big_quiet_skip | (go_big_quiet_want; go_big_quiet_op; first | go_big_quiet_on | (apply Exists.intro; refine ⟨fun _ => ?_, ?_⟩; (go_at_call 31; exact quiet_later (Heq.out _)); go_big_quiet_on)))
        refine wpQuiet_nil ?_
        intro x
        cases d1
        · go_wp2_with fail
          go_ret
          refine ⟨ret_bool ?_, below_of hbl hz x.below⟩
          have hne : p ≠ q := of_decide_eq_false Hd.out
          rw [eq_comm, decide_eq_false_iff_not]
          intro e
          apply hne
          have h1 := Hp.out
          rw [e] at h1
          exact Option.some.inj (h1.symm.trans Hq.out)
        · go_wp2_with fail
          have heq : p = q := of_decide_eq_true Hd.out
          refine ⟨⟨k + 1, by omega, by go_num, ?_, below_of hbl hz x.below⟩, by simp [intOf]; omega⟩
          rw [List.take_add_one, List.take_add_one, HT.out, Hp.out, Hq.out, heq]
      · obtain rfl : k = xs.length := by omega
        have HT := hid ht
        have HL := hid hl
        clear ht hl
        go_wp2_with fail
        go_ret
        refine ⟨ret_bool ?_, hbl⟩
        rw [eq_comm, decide_eq_true_iff]
        have := HT.out
        rw [List.take_length, HL.out, List.take_length] at this
        exact this
  · have hl1 : ((xs.length : Int) != ys.length) = true := by rw [bne_iff_ne]; omega
    have HL := hid hl
    clear hl
    go_enter Try.func11, Try.ntmps11
    go_wp2_with fail
    go_ret
    refine ⟨ret_bool ?_, Below.refl _ _⟩
    rw [eq_comm, decide_eq_false_iff_not]
    intro e
    exact HL.out (by rw [e])
end Go.Proofs.Ytnabedhhflfepaa
