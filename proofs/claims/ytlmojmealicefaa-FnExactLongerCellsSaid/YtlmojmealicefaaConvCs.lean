/-
  The laws' own helpers over Cell: copies, sizes, comparisons, marks.
  Conditions: lengths up to a bound where memory is made.
-/
import Derived.Test.YtlmojmealicefaaProg
import Derived.Test.YtlmojmealicefaaData
import Derived.Test.YtlmojmealicefaaConvBd
namespace Go.Proofs.Ytlmojmealicefaa
open Go.RowKit
set_option linter.unusedSimpArgs false

theorem to_CeP_L (p : Ce) (w : World) :
    Calls Try.prog 21 #[.agg p.enc.toArray] w fun e w' => e = .returned (.agg p.enc.toArray) ∧ Below w.heap.size w w' := to_Ce_L p.x p.y w
set_option maxHeartbeats 400000 in
theorem toS_Ce_L (a : Option Addr) (c : Nat) (xs : List Ce) (w : World) (h : SlA Ce.enc 2 w a xs) (hs : xs.length ≤ 1048576) :
    Calls Try.prog 8 #[.slice a xs.length c] w fun e w' => ∃ g, e = .returned (.slice (some ⟨g, 0, none⟩) xs.length xs.length) ∧ Below w.heap.size w w' ∧ w'.ownsRow w.heap.size 48 2 (.slice (some ⟨g, 0, none⟩) xs.length xs.length) xs.length (xs.flatMap Ce.enc) := by
  have hmk := make_any (P := Try.prog) 29 48 (.agg Ce.z.enc.toArray) 2 2 Try.underlying29 (by kernel_rfl) xs.length (by omega) (by omega)
  go_enter Try.func8, Try.ntmps8
  go_wp2_with fail
  obtain ⟨g, hg, own0⟩ : ∃ g, g = w.heap.size ∧ (w.alloc (Obj.cells (madeCells Ce.z.enc.toArray (xs.length * 2)) 48)).ownsRow w.heap.size 48 2 (.slice (some ⟨g, 0, none⟩) xs.length xs.length) xs.length (madeCells Ce.z.enc.toArray (xs.length * 2)).toList :=
    ⟨_, rfl, World.ownsRow_lit w _ _ (Nat.le_refl _) (by simp only [maxLen]; omega) (size_madeCells _ _)⟩
  rw [← hg]
  have hB0 : Below w.heap.size w (w.alloc (Obj.cells (madeCells Ce.z.enc.toArray (xs.length * 2)) 48)) := (Below.refl _ _).alloc (Nat.le_refl _) _
  have Hg := hid hg
  clear hg hmk
  go_loopw [4] (fun i wr => ∃ (k : Nat) (cs : List Value), k ≤ xs.length ∧ i = .int .i64 k ∧ cs.take (k * 2) = (xs.take k).flatMap Ce.enc ∧ wr.ownsRow w.heap.size 48 2 (.slice (some ⟨g, 0, none⟩) xs.length xs.length) xs.length cs ∧ Below w.heap.size w wr) (fun i _ => xs.length - (intOf i).toNat)
  case atStart => exact ⟨0, _, Nat.zero_le _, rfl, by simp, own0, hB0⟩
  case round =>
    clear own0 hB0
    obtain ⟨k, cs, hk, rfl, ht, own, hb⟩ := hrel
    by_cases hlt : k < xs.length
    · obtain ⟨b1, o1, rfl, hb1, hc1⟩ := h.cells (by omega)
      have e1 : xs[k]? = some xs[k] := List.getElem?_eq_getElem hlt
      have Hp := hid e1
      clear e1
      generalize xs[k] = p at *
      obtain ⟨x_, y_⟩ := p
      have f0 : wr.cell? ⟨b1, o1 + k * 2, none⟩ = some (.int .i8 x_) := (hb.cell (p := ⟨b1, _, none⟩) hb1).trans (hc1 k _ Hp.out 0 _ rfl)
      have f1 : wr.cell? ⟨b1, o1 + k * 2 + 1, none⟩ = some (.int .i8 y_) := (hb.cell (p := ⟨b1, _, none⟩) hb1).trans (hc1 k _ Hp.out 1 _ rfl)
      have Ho := hid own
      have Ht := hid ht
      have Hb := hid hb
      clear hc1 own ht hb
      have hts := fun W => to_CeP_L ⟨x_, y_⟩ W
      simp only [Ce.enc] at hts
      have Hts := hid hts
      clear hts
      go_wp2_with fail
      refine (Hts.out _).mono ?_
      rintro e w1 ⟨rfl, hb9⟩
      have own1 := own_step Ho.out hb9
      have hcs : cs.length = xs.length * 2 := own1.1
      have c0 : w1.cell? ⟨g, k * 2, none⟩ = some (cs.getD (k * 2) undef) := (own1.cellAt _ (by omega)).trans (getD_some (by omega))
      have z0 : w1.frozen? ⟨g, k * 2, none⟩ = false := own1.frozenAt _
      have c1 : w1.cell? ⟨g, k * 2 + 1, none⟩ = some (cs.getD (k * 2 + 1) undef) := (own1.cellAt _ (by omega)).trans (getD_some (by omega))
      have z1 : w1.frozen? ⟨g, k * 2 + 1, none⟩ = false := own1.frozenAt _
      have Ho1 := hid own1
      have Hcs := hid hcs
      clear own1 hcs
      go_wp2_with fail
      have h0 : _ ∧ _ := Ho1.out.stored (k * 2) (.int .i8 x_)
      have h1 : _ ∧ _ := h0.1.stored (k * 2 + 1) (.int .i8 y_)
      refine ⟨⟨k + 1, _, by omega, by go_num, flat_take (en := Ce.enc) (fun _ => rfl) Hp.out Hcs.out Ht.out, h1.1, ?_⟩, by simp [intOf]; omega⟩
      exact ((below_of Hb.out Hb.out.size hb9).setCell (by rw [Hg.out]; exact Nat.le_refl _) _).setCell (by rw [Hg.out]; exact Nat.le_refl _) _
    · obtain rfl : k = xs.length := by omega
      have Ho := hid own
      have Ht := hid ht
      clear own ht
      go_wp2_with fail
      go_ret
      have hcs : cs.length = xs.length * 2 := Ho.out.1
      have e : cs = xs.flatMap Ce.enc := by
        have := Ht.out
        rw [List.take_of_length_le (by omega), List.take_length] at this
        exact this
      exact ⟨g, rfl, hb, by rw [← e]; exact Ho.out⟩
theorem sz_Ce_L (a : Option Addr) (n c : Nat) (left : Int) (w : World) (h0 : 0 ≤ left) (h1 : left ≤ 1048576) (hn : n ≤ 9223372036854775807) :
    Calls Try.prog 5 #[.slice a n c, .int .i64 left] w fun e w' => e = .returned (.int .i64 (if left - n < 0 then -1 else left - n)) ∧ w = w' := by
  go_enter Try.func5, Try.ntmps5
  go_wp2
  all_goals go_ret
  all_goals exact ⟨ret_int (by first | omega | (split <;> omega)), rfl⟩
theorem eq_CeP_L (p q : Ce) (w : World) :
    Calls Try.prog 28 #[.agg p.enc.toArray, .agg q.enc.toArray] w fun e w' => e = .returned (.bool (decide (p = q))) ∧ Below w.heap.size w w' := by
  have h := eq_Ce_L p.x p.y q.x q.y w
  have e : decide (p.x = q.x ∧ p.y = q.y) = decide (p = q) := by
    obtain ⟨a, b⟩ := p
    obtain ⟨c, d⟩ := q
    simp
  rw [e] at h
  exact h
set_option maxHeartbeats 400000 in
theorem eqS_Ce_L (a b : Option Addr) (c d : Nat) (xs ys : List Ce) (w : World) (ha : SlA Ce.enc 2 w a xs) (hb : SlA Ce.enc 2 w b ys) :
    Calls Try.prog 10 #[.slice a xs.length c, .slice b ys.length d] w fun e w' => e = .returned (.bool (decide (xs = ys))) ∧ Below w.heap.size w w' := by
  have sa := ha.small
  have sb := hb.small
  by_cases hl : xs.length = ys.length
  · have hl1 : ((xs.length : Int) != ys.length) = false := by simp [hl]
    go_enter Try.func10, Try.ntmps10
    go_wp2_with fail
    go_loopw [5] (fun i wr => ∃ k : Nat, k ≤ xs.length ∧ i = .int .i64 k ∧ xs.take k = ys.take k ∧ Below w.heap.size w wr) (fun i _ => xs.length - (intOf i).toNat)
    case atStart => exact ⟨0, Nat.zero_le _, rfl, rfl, Below.refl _ _⟩
    case round =>
      obtain ⟨k, hk, rfl, ht, hbl⟩ := hrel
      by_cases hlt : k < xs.length
      · obtain ⟨b1, o1, rfl, hb1, hc1⟩ := ha.cells (by omega)
        obtain ⟨b2, o2, rfl, hb2, hc2⟩ := hb.cells (by omega)
        have hly : k < ys.length := by omega
        have e1 : xs[k]? = some xs[k] := List.getElem?_eq_getElem hlt
        have e2 : ys[k]? = some ys[k] := List.getElem?_eq_getElem hly
        have Hp := hid e1
        have Hq := hid e2
        have HT := hid ht
        have HL := hid hl
        clear ht hl e1 e2
        generalize xs[k] = p at *
        generalize ys[k] = q at *
        have f0 : w.cell? ⟨b1, o1 + k * 2, none⟩ = some (.int .i8 p.x) := hc1 k _ Hp.out 0 _ rfl
        have f1 : w.cell? ⟨b1, o1 + k * 2 + 1, none⟩ = some (.int .i8 p.y) := hc1 k _ Hp.out 1 _ rfl
        have g0 : w.cell? ⟨b2, o2 + k * 2, none⟩ = some (.int .i8 q.x) := hc2 k _ Hq.out 0 _ rfl
        have g1 : w.cell? ⟨b2, o2 + k * 2 + 1, none⟩ = some (.int .i8 q.y) := hc2 k _ Hq.out 1 _ rfl
        obtain ⟨hcw, hfw⟩ := bcell hbl
        have hz := hbl.size
        have hb1w : b1 < wr.heap.size := by omega
        have hb2w : b2 < wr.heap.size := by omega
        clear hc1 hc2
        have Heq := hid (eq_CeP_L p q)
        generalize hd : decide (p = q) = d1 at *
        have Hd := hid hd
        clear hd
        have hL := @later_cell wr
        go_wp2_with fail
        refine wp_region_later (by kernel_rfl) (by kernel_rfl) ?_
        repeat (first | go_big_quiet_skip | (go_big_quiet_want; go_big_quiet_op; first | go_big_quiet_on | (apply Exists.intro; refine ⟨fun _ => ?_, ?_⟩; (go_at_call 28; exact quiet_later (Heq.out _)); go_big_quiet_on)))
        refine wpQuiet_nil ?_
        intro x
        cases d1
        · go_wp2_with fail
          go_ret
          refine ⟨ret_bool ?_, below_of hbl hz x.below⟩
          have hne : p ≠ q := of_decide_eq_false Hd.out
          rw [eq_comm, decide_eq_false_iff_not]
          intro e
          apply hne
          have h1 := Hp.out
          rw [e] at h1
          exact Option.some.inj (h1.symm.trans Hq.out)
        · go_wp2_with fail
          have heq : p = q := of_decide_eq_true Hd.out
          refine ⟨⟨k + 1, by omega, by go_num, ?_, below_of hbl hz x.below⟩, by simp [intOf]; omega⟩
          rw [List.take_add_one, List.take_add_one, HT.out, Hp.out, Hq.out, heq]
      · obtain rfl : k = xs.length := by omega
        have HT := hid ht
        have HL := hid hl
        clear ht hl
        go_wp2_with fail
        go_ret
        refine ⟨ret_bool ?_, hbl⟩
        rw [eq_comm, decide_eq_true_iff]
        have := HT.out
        rw [List.take_length, HL.out, List.take_length] at this
        exact this
  · have hl1 : ((xs.length : Int) != ys.length) = true := by rw [bne_iff_ne]; omega
    have HL := hid hl
    clear hl
    go_enter Try.func10, Try.ntmps10
    go_wp2_with fail
    go_ret
    refine ⟨ret_bool ?_, Below.refl _ _⟩
    rw [eq_comm, decide_eq_false_iff_not]
    intro e
    exact HL.out (by rw [e])
def Ce.mk_ (k : Int) : Ce := ⟨IntKind.i8.wrap (k), IntKind.i8.wrap (k + 1)⟩
set_option maxHeartbeats 400000 in
theorem markS_Ce_L (base : Nat) (A : Option Addr) (c : Nat) (xs : List Ce) (k0 : Int) (w : World) (h : w.ownsRow base 48 2 (.slice A xs.length c) xs.length (xs.flatMap Ce.enc)) (h0 : 0 ≤ k0) (h1 : k0 ≤ 1099511627776) (hs : xs.length ≤ 1073741824) :
    Calls Try.prog 13 #[.slice A xs.length c, .int .i64 k0] w fun e w' => e = .returned (.int .i64 (k0 + 2 * xs.length)) ∧ w.grownBy w' (A.map (·.block)) ∧ w'.ownsRow base 48 2 (.slice A xs.length c) xs.length ((markL Ce.mk_ 2 xs.length k0).flatMap Ce.enc) := by
  go_enter Try.func13, Try.ntmps13
  go_wp2_with fail
  go_loopw [1, 5] (fun kv i wr => ∃ (k : Nat) (cs : List Value), k ≤ xs.length ∧ kv = .int .i64 (k0 + 2 * k) ∧ i = .int .i64 k ∧ cs.take (k * 2) = ((markL Ce.mk_ 2 xs.length k0).take k).flatMap Ce.enc ∧ wr.ownsRow base 48 2 (.slice A xs.length c) xs.length cs ∧ w.grownBy wr (A.map (·.block))) (fun _ i _ => xs.length - (intOf i).toNat)
  case atStart => exact ⟨0, _, Nat.zero_le _, by go_num, rfl, by simp, h, World.grownBy.refl _ _⟩
  case round =>
    obtain ⟨k, cs, hk, rfl, rfl, ht, own, hg⟩ := hrel
    obtain ⟨q, hq⟩ : ∃ q : Int, q = k0 + 2 * k := ⟨_, rfl⟩
    have hq0 : 0 ≤ q := by omega
    have hq1 : q ≤ 1099511627776 + 2 * 1073741824 := by omega
    have Hq := hid hq
    by_cases hlt : k < xs.length
    · obtain ⟨g, rfl⟩ : ∃ g, A = some ⟨g, 0, none⟩ := by
        obtain ⟨g, cap', hv, _, _⟩ := own.form (by omega)
        injection hv with hv1
        exact ⟨g, hv1⟩
      have hp : (markL Ce.mk_ 2 xs.length k0)[k]? = some (Ce.mk_ q) := by rw [markL_get _ _ _ _ _ hlt, hq]; rfl
      have hcs : cs.length = xs.length * 2 := own.1
      have c0 : wr.cell? ⟨g, k * 2, none⟩ = some (cs.getD (k * 2) undef) := (own.cellAt _ (by omega)).trans (getD_some (by omega))
      have z0 : wr.frozen? ⟨g, k * 2, none⟩ = false := own.frozenAt _
      have c1 : wr.cell? ⟨g, k * 2 + 1, none⟩ = some (cs.getD (k * 2 + 1) undef) := (own.cellAt _ (by omega)).trans (getD_some (by omega))
      have z1 : wr.frozen? ⟨g, k * 2 + 1, none⟩ = false := own.frozenAt _
      have Ho := hid own
      have Ht := hid ht
      have Hg := hid hg
      have Hp := hid hp
      have Hcs := hid hcs
      rw [← hq]
      clear own ht hg hp hcs hq h
      go_wp2_with fail
      refine wp_loop_rounds 3 ?_
      rw [rounds_succ]
      go_wp2_with fail
      rw [rounds_succ]
      go_wp2_with fail
      rw [rounds_succ]
      go_wp2_with fail
      have h0 : _ ∧ _ := Ho.out.stored (k * 2) (.int .i8 (IntKind.i8.wrap (q)))
      have h1 : _ ∧ _ := h0.1.stored (k * 2 + 1) (.int .i8 (IntKind.i8.wrap (q + 1)))
      refine ⟨⟨k + 1, _, by omega, ?_, by go_num, flat_take (en := Ce.enc) (fun _ => rfl) Hp.out (by rw [markL_length]; exact Hcs.out) Ht.out, h1.1, ?_⟩, by simp [intOf]; omega⟩
      · have := Hq.out
        congr 1; omega
      · exact World.grownBy.trans (World.grownBy.trans (Hg.out) h0.2) h1.2
    · obtain rfl : k = xs.length := by omega
      have Ho := hid own
      have Ht := hid ht
      rw [← hq]
      clear own ht hq h
      go_wp2_with fail
      go_ret
      have hcs : cs.length = xs.length * 2 := Ho.out.1
      have e : cs = (markL Ce.mk_ 2 xs.length k0).flatMap Ce.enc := by
        have := Ht.out
        rw [List.take_of_length_le (by omega), List.take_of_length_le (by rw [markL_length]; exact Nat.le_refl _)] at this
        exact this
      exact ⟨ret_int Hq.out, hg, by rw [← e]; exact Ho.out⟩
set_option maxHeartbeats 400000 in
theorem heldS_Ce_L (a : Option Addr) (c m : Nat) (k0 : Int) (w : World) (h : SlA Ce.enc 2 w a (markL Ce.mk_ 2 m k0)) (h0 : 0 ≤ k0) (h1 : k0 ≤ 1099511627776) (hs : m ≤ 1073741824) :
    Calls Try.prog 14 #[.slice a m c, .int .i64 k0] w fun e w' => e = .returned (.int .i64 (k0 + 2 * m)) ∧ w = w' := by
  go_enter Try.func14, Try.ntmps14
  go_wp2_with fail
  go_loop [1, 5] (fun kv i => ∃ (k : Nat), k ≤ m ∧ kv = .int .i64 (k0 + 2 * k) ∧ i = .int .i64 k) (fun _ i => m - (intOf i).toNat)
  case atStart => exact ⟨0, Nat.zero_le _, by go_num, rfl⟩
  case round =>
    obtain ⟨k, hk, rfl, rfl⟩ := hrel
    obtain ⟨q, hq⟩ : ∃ q : Int, q = k0 + 2 * k := ⟨_, rfl⟩
    have hq0 : 0 ≤ q := by omega
    have hq1 : q ≤ 1099511627776 + 2 * 1073741824 := by omega
    have Hq := hid hq
    rw [← hq]
    by_cases hlt : k < m
    · obtain ⟨b1, o1, rfl, hb1, hc1⟩ := h.cells (by rw [markL_length]; omega)
      have hp : (markL Ce.mk_ 2 m k0)[k]? = some (Ce.mk_ q) := by rw [markL_get _ _ _ _ _ hlt, hq]; rfl
      have f0 : w.cell? ⟨b1, o1 + k * 2, none⟩ = some (.int .i8 (IntKind.i8.wrap (q))) := hc1 k _ hp 0 _ rfl
      have f1 : w.cell? ⟨b1, o1 + k * 2 + 1, none⟩ = some (.int .i8 (IntKind.i8.wrap (q + 1))) := hc1 k _ hp 1 _ rfl
      clear hc1 hp hq h
      go_wp2_with fail
      refine wp_loop_rounds 3 ?_
      rw [rounds_succ]
      go_wp2_with fail
      rw [rounds_succ]
      go_wp2_with fail
      rw [rounds_succ]
      go_wp2_with fail
      refine ⟨⟨k + 1, by omega, ?_, by go_num⟩, by simp [intOf]; omega⟩
      have := Hq.out
      congr 1; omega
    · obtain rfl : k = m := by omega
      clear hq h
      go_wp2_with fail
      go_ret
      exact ⟨ret_int Hq.out, rfl⟩
end Go.Proofs.Ytlmojmealicefaa
