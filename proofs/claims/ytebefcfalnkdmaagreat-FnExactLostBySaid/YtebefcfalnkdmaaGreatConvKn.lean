/-
  The laws' own helpers over Knock: copies, sizes, comparisons, marks.
  Conditions: lengths up to a bound where memory is made.
-/
import Derived.Test.YtebefcfalnkdmaaGreatProg
import Derived.Test.YtebefcfalnkdmaaGreatData
namespace Go.Proofs.YtebefcfalnkdmaaGreat
open Go.RowKit
set_option linter.unusedSimpArgs false

theorem to_Kn_L (p : Kn) (w : World) :
    Calls Tryz.prog 52 #[.agg p.enc.toArray] w fun e w' => e = .returned (.agg p.enc.toArray) ∧ Below w.heap.size w w' := by
  obtain ⟨af_, pi_, sd_⟩ := p
  simp only [Kn.enc] at *
  go_enter Tryz.func52, Tryz.ntmps52
  go_wp2
  refine bodyPost_ret (v := .agg #[.int .i64 af_, .int .i64 pi_, .int .i8 sd_]) (by simp [results, Tryz.results52, go_sem]) rfl ⟨rfl, ?_⟩
  exact (((Below.refl _ _).alloc (Nat.le_refl _) _).alloc (by simp) _).alloc (by simp; omega) _
set_option maxHeartbeats 400000 in
theorem toS_Kn_L (a : Option Addr) (c : Nat) (xs : List Kn) (w : World) (h : SlA Kn.enc 3 w a xs) (hs : xs.length ≤ 1048576) :
    Calls Tryz.prog 24 #[.slice a xs.length c] w fun e w' => ∃ g, e = .returned (.slice (some ⟨g, 0, none⟩) xs.length xs.length) ∧ Below w.heap.size w w' ∧ w'.ownsRow w.heap.size 78 3 (.slice (some ⟨g, 0, none⟩) xs.length xs.length) xs.length (xs.flatMap Kn.enc) := by
  have hmk := make_any (P := Tryz.prog) 49 78 (.agg Kn.z.enc.toArray) 3 24 Tryz.underlying49 (by kernel_rfl) xs.length (by omega) (by omega)
  go_enter Tryz.func24, Tryz.ntmps24
  go_wp2_with fail
  obtain ⟨g, hg, own0⟩ : ∃ g, g = w.heap.size ∧ (w.alloc (Obj.cells (madeCells Kn.z.enc.toArray (xs.length * 3)) 78)).ownsRow w.heap.size 78 3 (.slice (some ⟨g, 0, none⟩) xs.length xs.length) xs.length (madeCells Kn.z.enc.toArray (xs.length * 3)).toList :=
    ⟨_, rfl, World.ownsRow_lit w _ _ (Nat.le_refl _) (by simp only [maxLen]; omega) (size_madeCells _ _)⟩
  rw [← hg]
  have hB0 : Below w.heap.size w (w.alloc (Obj.cells (madeCells Kn.z.enc.toArray (xs.length * 3)) 78)) := (Below.refl _ _).alloc (Nat.le_refl _) _
  have Hg := hid hg
  clear hg hmk
  go_loopw [4] (fun i wr => ∃ (k : Nat) (cs : List Value), k ≤ xs.length ∧ i = .int .i64 k ∧ cs.take (k * 3) = (xs.take k).flatMap Kn.enc ∧ wr.ownsRow w.heap.size 78 3 (.slice (some ⟨g, 0, none⟩) xs.length xs.length) xs.length cs ∧ Below w.heap.size w wr) (fun i _ => xs.length - (intOf i).toNat)
  case atStart => exact ⟨0, _, Nat.zero_le _, rfl, by simp, own0, hB0⟩
  case round =>
    clear own0 hB0
    obtain ⟨k, cs, hk, rfl, ht, own, hb⟩ := hrel
    by_cases hlt : k < xs.length
    · obtain ⟨b1, o1, rfl, hb1, hc1⟩ := h.cells (by omega)
      have e1 : xs[k]? = some xs[k] := List.getElem?_eq_getElem hlt
      have Hp := hid e1
      clear e1
      generalize xs[k] = p at *
      obtain ⟨af_, pi_, sd_⟩ := p
      have f0 : wr.cell? ⟨b1, o1 + k * 3, none⟩ = some (.int .i64 af_) := (hb.cell (p := ⟨b1, _, none⟩) hb1).trans (hc1 k _ Hp.out 0 _ rfl)
      have f1 : wr.cell? ⟨b1, o1 + k * 3 + 1, none⟩ = some (.int .i64 pi_) := (hb.cell (p := ⟨b1, _, none⟩) hb1).trans (hc1 k _ Hp.out 1 _ rfl)
      have f2 : wr.cell? ⟨b1, o1 + k * 3 + 2, none⟩ = some (.int .i8 sd_) := (hb.cell (p := ⟨b1, _, none⟩) hb1).trans (hc1 k _ Hp.out 2 _ rfl)
      have Ho := hid own
      have Ht := hid ht
      have Hb := hid hb
      clear hc1 own ht hb
      have hts := fun W => to_Kn_L ⟨af_, pi_, sd_⟩ W
      simp only [Kn.enc] at hts
      have Hts := hid hts
      clear hts
      go_wp2_with fail
      refine (Hts.out _).mono ?_
      rintro e w1 ⟨rfl, hb9⟩
      have own1 := own_step Ho.out hb9
      have hcs : cs.length = xs.length * 3 := own1.1
      have c0 : w1.cell? ⟨g, k * 3, none⟩ = some (cs.getD (k * 3) undef) := (own1.cellAt _ (by omega)).trans (getD_some (by omega))
      have z0 : w1.frozen? ⟨g, k * 3, none⟩ = false := own1.frozenAt _
      have c1 : w1.cell? ⟨g, k * 3 + 1, none⟩ = some (cs.getD (k * 3 + 1) undef) := (own1.cellAt _ (by omega)).trans (getD_some (by omega))
      have z1 : w1.frozen? ⟨g, k * 3 + 1, none⟩ = false := own1.frozenAt _
      have c2 : w1.cell? ⟨g, k * 3 + 2, none⟩ = some (cs.getD (k * 3 + 2) undef) := (own1.cellAt _ (by omega)).trans (getD_some (by omega))
      have z2 : w1.frozen? ⟨g, k * 3 + 2, none⟩ = false := own1.frozenAt _
      have Ho1 := hid own1
      have Hcs := hid hcs
      clear own1 hcs
      go_wp2_with fail
      have h0 : _ ∧ _ := Ho1.out.stored (k * 3) (.int .i64 af_)
      have h1 : _ ∧ _ := h0.1.stored (k * 3 + 1) (.int .i64 pi_)
      have h2 : _ ∧ _ := h1.1.stored (k * 3 + 2) (.int .i8 sd_)
      refine ⟨⟨k + 1, _, by omega, by go_num, flat_take (en := Kn.enc) (fun _ => rfl) Hp.out Hcs.out Ht.out, h2.1, ?_⟩, by simp [intOf]; omega⟩
      exact (((below_of Hb.out Hb.out.size hb9).setCell (by rw [Hg.out]; exact Nat.le_refl _) _).setCell (by rw [Hg.out]; exact Nat.le_refl _) _).setCell (by rw [Hg.out]; exact Nat.le_refl _) _
    · obtain rfl : k = xs.length := by omega
      have Ho := hid own
      have Ht := hid ht
      clear own ht
      go_wp2_with fail
      go_ret
      have hcs : cs.length = xs.length * 3 := Ho.out.1
      have e : cs = xs.flatMap Kn.enc := by
        have := Ht.out
        rw [List.take_of_length_le (by omega), List.take_length] at this
        exact this
      exact ⟨g, rfl, hb, by rw [← e]; exact Ho.out⟩
theorem sz_Kn_L (a : Option Addr) (n c : Nat) (left : Int) (w : World) (h0 : 0 ≤ left) (h1 : left ≤ 1048576) (hn : n ≤ 9223372036854775807) :
    Calls Tryz.prog 22 #[.slice a n c, .int .i64 left] w fun e w' => e = .returned (.int .i64 (if left - n < 0 then -1 else left - n)) ∧ w = w' := by
  go_enter Tryz.func22, Tryz.ntmps22
  go_wp2
  all_goals go_ret
  all_goals exact ⟨ret_int (by first | omega | (split <;> omega)), rfl⟩
theorem eq_Kn_L (p q : Kn) (w : World) :
    Calls Tryz.prog 54 #[.agg p.enc.toArray, .agg q.enc.toArray] w fun e w' => e = .returned (.bool (decide (p = q))) ∧ Below w.heap.size w w' := by
  obtain ⟨af_, pi_, sd_⟩ := p
  obtain ⟨af_', pi_', sd_'⟩ := q
  simp only [Kn.enc] at *
  go_enter Tryz.func54, Tryz.ntmps54
  go_wp2
  all_goals go_ret
  all_goals refine ⟨ret_bool ?_, ((Below.refl _ _).alloc (Nat.le_refl _) _).alloc (by simp) _⟩
  all_goals simp_all [Kn.mk.injEq]
set_option maxHeartbeats 400000 in
theorem eqS_Kn_L (a b : Option Addr) (c d : Nat) (xs ys : List Kn) (w : World) (ha : SlA Kn.enc 3 w a xs) (hb : SlA Kn.enc 3 w b ys) :
    Calls Tryz.prog 26 #[.slice a xs.length c, .slice b ys.length d] w fun e w' => e = .returned (.bool (decide (xs = ys))) ∧ Below w.heap.size w w' := by
  have sa := ha.small
  have sb := hb.small
  by_cases hl : xs.length = ys.length
  · have hl1 : ((xs.length : Int) != ys.length) = false := by simp [hl]
    go_enter Tryz.func26, Tryz.ntmps26
    go_wp2_with fail
    go_loopw [5] (fun i wr => ∃ k : Nat, k ≤ xs.length ∧ i = .int .i64 k ∧ xs.take k = ys.take k ∧ Below w.heap.size w wr) (fun i _ => xs.length - (intOf i).toNat)
    case atStart => exact ⟨0, Nat.zero_le _, rfl, rfl, Below.refl _ _⟩
    case round =>
      obtain ⟨k, hk, rfl, ht, hbl⟩ := hrel
      by_cases hlt : k < xs.length
      · obtain ⟨b1, o1, rfl, hb1, hc1⟩ := ha.cells (by omega)
        obtain ⟨b2, o2, rfl, hb2, hc2⟩ := hb.cells (by omega)
        have hly : k < ys.length := by omega
        have e1 : xs[k]? = some xs[k] := List.getElem?_eq_getElem hlt
        have e2 : ys[k]? = some ys[k] := List.getElem?_eq_getElem hly
        have Hp := hid e1
        have Hq := hid e2
        have HT := hid ht
        have HL := hid hl
        clear ht hl e1 e2
        generalize xs[k] = p at *
        generalize ys[k] = q at *
        have f0 : w.cell? ⟨b1, o1 + k * 3, none⟩ = some (.int .i64 p.af) := hc1 k _ Hp.out 0 _ rfl
        have f1 : w.cell? ⟨b1, o1 + k * 3 + 1, none⟩ = some (.int .i64 p.pi) := hc1 k _ Hp.out 1 _ rfl
        have f2 : w.cell? ⟨b1, o1 + k * 3 + 2, none⟩ = some (.int .i8 p.sd) := hc1 k _ Hp.out 2 _ rfl
        have g0 : w.cell? ⟨b2, o2 + k * 3, none⟩ = some (.int .i64 q.af) := hc2 k _ Hq.out 0 _ rfl
        have g1 : w.cell? ⟨b2, o2 + k * 3 + 1, none⟩ = some (.int .i64 q.pi) := hc2 k _ Hq.out 1 _ rfl
        have g2 : w.cell? ⟨b2, o2 + k * 3 + 2, none⟩ = some (.int .i8 q.sd) := hc2 k _ Hq.out 2 _ rfl
        obtain ⟨hcw, hfw⟩ := bcell hbl
        have hz := hbl.size
        have hb1w : b1 < wr.heap.size := by omega
        have hb2w : b2 < wr.heap.size := by omega
        clear hc1 hc2
        have Heq := hid (eq_Kn_L p q)
        generalize hd : decide (p = q) = d1 at *
        have Hd := hid hd
        clear hd
        have hL := @later_cell wr
        go_wp2_with fail
        refine wp_region_later (by kernel_rfl) (by kernel_rfl) ?_
        repeat (first | go_big_quiet_skip | (go_big_quiet_want; go_big_quiet_op; first | go_big_quiet_on | (apply Exists.intro; refine ⟨fun _ => ?_, ?_⟩; (go_at_call 54; exact quiet_later (Heq.out _)); go_big_quiet_on)))
        refine wpQuiet_nil ?_
        intro x
        cases d1
        · go_wp2_with fail
          go_ret
          refine ⟨ret_bool ?_, below_of hbl hz x.below⟩
          have hne : p ≠ q := of_decide_eq_false Hd.out
          rw [eq_comm, decide_eq_false_iff_not]
          intro e
          apply hne
          have h1 := Hp.out
          rw [e] at h1
          exact Option.some.inj (h1.symm.trans Hq.out)
        · go_wp2_with fail
          have heq : p = q := of_decide_eq_true Hd.out
          refine ⟨⟨k + 1, by omega, by go_num, ?_, below_of hbl hz x.below⟩, by simp [intOf]; omega⟩
          rw [List.take_add_one, List.take_add_one, HT.out, Hp.out, Hq.out, heq]
      · obtain rfl : k = xs.length := by omega
        have HT := hid ht
        have HL := hid hl
        clear ht hl
        go_wp2_with fail
        go_ret
        refine ⟨ret_bool ?_, hbl⟩
        rw [eq_comm, decide_eq_true_iff]
        have := HT.out
        rw [List.take_length, HL.out, List.take_length] at this
        exact this
  · have hl1 : ((xs.length : Int) != ys.length) = true := by rw [bne_iff_ne]; omega
    have HL := hid hl
    clear hl
    go_enter Tryz.func26, Tryz.ntmps26
    go_wp2_with fail
    go_ret
    refine ⟨ret_bool ?_, Below.refl _ _⟩
    rw [eq_comm, decide_eq_false_iff_not]
    intro e
    exact HL.out (by rw [e])
theorem eql_Kn (p q : Kn) (w : World) : (Op.equalIn 10000 78 (.agg p.enc.toArray) (.agg q.enc.toArray)).run Tryz.prog w = .ok (decide (p = q)) w := by
  obtain ⟨af_, pi_, sd_⟩ := p
  obtain ⟨af_', pi_', sd_'⟩ := q
  have h2 : Tryz.prog.stoodInHeld 78 = false := by kernel_rfl
  simp only [Kn.enc]
  rw [run_equalIn_struct (P := Tryz.prog) w 9999 78 _ _ (by kernel_rfl) h2]
  simp [go_sem, Op.eqFields, Program.fieldsOf, Tryz.underlying78, part]
  repeat' split
  all_goals simp_all
def Kn.mk_ (k : Int) : Kn := ⟨k, k + 1, IntKind.i8.wrap (k + 1 + 1)⟩
set_option maxHeartbeats 400000 in
theorem markS_Kn_L (base : Nat) (A : Option Addr) (c : Nat) (xs : List Kn) (k0 : Int) (w : World) (h : w.ownsRow base 78 3 (.slice A xs.length c) xs.length (xs.flatMap Kn.enc)) (h0 : 0 ≤ k0) (h1 : k0 ≤ 1099511627776) (hs : xs.length ≤ 1073741824) :
    Calls Tryz.prog 29 #[.slice A xs.length c, .int .i64 k0] w fun e w' => e = .returned (.int .i64 (k0 + 3 * xs.length)) ∧ w.grownBy w' (A.map (·.block)) ∧ w'.ownsRow base 78 3 (.slice A xs.length c) xs.length ((markL Kn.mk_ 3 xs.length k0).flatMap Kn.enc) := by
  go_enter Tryz.func29, Tryz.ntmps29
  go_wp2_with fail
  go_loopw [1, 5] (fun kv i wr => ∃ (k : Nat) (cs : List Value), k ≤ xs.length ∧ kv = .int .i64 (k0 + 3 * k) ∧ i = .int .i64 k ∧ cs.take (k * 3) = ((markL Kn.mk_ 3 xs.length k0).take k).flatMap Kn.enc ∧ wr.ownsRow base 78 3 (.slice A xs.length c) xs.length cs ∧ w.grownBy wr (A.map (·.block))) (fun _ i _ => xs.length - (intOf i).toNat)
  case atStart => exact ⟨0, _, Nat.zero_le _, by go_num, rfl, by simp, h, World.grownBy.refl _ _⟩
  case round =>
    obtain ⟨k, cs, hk, rfl, rfl, ht, own, hg⟩ := hrel
    obtain ⟨q, hq⟩ : ∃ q : Int, q = k0 + 3 * k := ⟨_, rfl⟩
    have hq0 : 0 ≤ q := by omega
    have hq1 : q ≤ 1099511627776 + 3 * 1073741824 := by omega
    have Hq := hid hq
    by_cases hlt : k < xs.length
    · obtain ⟨g, rfl⟩ : ∃ g, A = some ⟨g, 0, none⟩ := by
        obtain ⟨g, cap', hv, _, _⟩ := own.form (by omega)
        injection hv with hv1
        exact ⟨g, hv1⟩
      have hp : (markL Kn.mk_ 3 xs.length k0)[k]? = some (Kn.mk_ q) := by rw [markL_get _ _ _ _ _ hlt, hq]; rfl
      have hcs : cs.length = xs.length * 3 := own.1
      have c0 : wr.cell? ⟨g, k * 3, none⟩ = some (cs.getD (k * 3) undef) := (own.cellAt _ (by omega)).trans (getD_some (by omega))
      have z0 : wr.frozen? ⟨g, k * 3, none⟩ = false := own.frozenAt _
      have c1 : wr.cell? ⟨g, k * 3 + 1, none⟩ = some (cs.getD (k * 3 + 1) undef) := (own.cellAt _ (by omega)).trans (getD_some (by omega))
      have z1 : wr.frozen? ⟨g, k * 3 + 1, none⟩ = false := own.frozenAt _
      have c2 : wr.cell? ⟨g, k * 3 + 2, none⟩ = some (cs.getD (k * 3 + 2) undef) := (own.cellAt _ (by omega)).trans (getD_some (by omega))
      have z2 : wr.frozen? ⟨g, k * 3 + 2, none⟩ = false := own.frozenAt _
      have Ho := hid own
      have Ht := hid ht
      have Hg := hid hg
      have Hp := hid hp
      have Hcs := hid hcs
      rw [← hq]
      clear own ht hg hp hcs hq h
      go_wp2_with fail
      have h0 : _ ∧ _ := Ho.out.stored (k * 3) (.int .i64 (q))
      have h1 : _ ∧ _ := h0.1.stored (k * 3 + 1) (.int .i64 (q + 1))
      have h2 : _ ∧ _ := h1.1.stored (k * 3 + 2) (.int .i8 (IntKind.i8.wrap (q + 1 + 1)))
      refine ⟨⟨k + 1, _, by omega, ?_, by go_num, flat_take (en := Kn.enc) (fun _ => rfl) Hp.out (by rw [markL_length]; exact Hcs.out) Ht.out, h2.1, ?_⟩, by simp [intOf]; omega⟩
      · have := Hq.out
        congr 1; omega
      · exact World.grownBy.trans (World.grownBy.trans (World.grownBy.trans (Hg.out) h0.2) h1.2) h2.2
    · obtain rfl : k = xs.length := by omega
      have Ho := hid own
      have Ht := hid ht
      rw [← hq]
      clear own ht hq h
      go_wp2_with fail
      go_ret
      have hcs : cs.length = xs.length * 3 := Ho.out.1
      have e : cs = (markL Kn.mk_ 3 xs.length k0).flatMap Kn.enc := by
        have := Ht.out
        rw [List.take_of_length_le (by omega), List.take_of_length_le (by rw [markL_length]; exact Nat.le_refl _)] at this
        exact this
      exact ⟨ret_int Hq.out, hg, by rw [← e]; exact Ho.out⟩
end Go.Proofs.YtebefcfalnkdmaaGreat
