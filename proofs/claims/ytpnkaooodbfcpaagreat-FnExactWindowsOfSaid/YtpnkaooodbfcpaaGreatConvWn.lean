/-
  The laws' own helpers over Window: copies, sizes, comparisons, marks.
  Conditions: lengths up to a bound where memory is made.
-/
import Derived.Test.YtpnkaooodbfcpaaGreatProg
import Derived.Test.YtpnkaooodbfcpaaGreatData
namespace Go.Proofs.YtpnkaooodbfcpaaGreat
open Go.RowKit
set_option linter.unusedSimpArgs false

theorem eq_Wn_L (p q : Wn) (w : World) :
    Calls Tryz.prog 51 #[.agg p.enc.toArray, .agg q.enc.toArray] w fun e w' => e = .returned (.bool (decide (p = q))) ∧ Below w.heap.size w w' := by
  obtain ⟨si_, su_, ea_, la_⟩ := p
  obtain ⟨si_', su_', ea_', la_'⟩ := q
  simp only [Wn.enc] at *
  go_enter Tryz.func51, Tryz.ntmps51
  go_wp2
  all_goals go_ret
  all_goals refine ⟨ret_bool ?_, ((Below.refl _ _).alloc (Nat.le_refl _) _).alloc (by simp) _⟩
  all_goals simp_all [Wn.mk.injEq]
set_option maxHeartbeats 400000 in
theorem eqS_Wn_L (a b : Option Addr) (c d : Nat) (xs ys : List Wn) (w : World) (ha : SlA Wn.enc 4 w a xs) (hb : SlA Wn.enc 4 w b ys) :
    Calls Tryz.prog 18 #[.slice a xs.length c, .slice b ys.length d] w fun e w' => e = .returned (.bool (decide (xs = ys))) ∧ Below w.heap.size w w' := by
  have sa := ha.small
  have sb := hb.small
  by_cases hl : xs.length = ys.length
  · have hl1 : ((xs.length : Int) != ys.length) = false := by simp [hl]
    go_enter Tryz.func18, Tryz.ntmps18
    go_wp2_with fail
    go_loopw [5] (fun i wr => ∃ k : Nat, k ≤ xs.length ∧ i = .int .i64 k ∧ xs.take k = ys.take k ∧ Below w.heap.size w wr) (fun i _ => xs.length - (intOf i).toNat)
    case atStart => exact ⟨0, Nat.zero_le _, rfl, rfl, Below.refl _ _⟩
    case round =>
      obtain ⟨k, hk, rfl, ht, hbl⟩ := hrel
      by_cases hlt : k < xs.length
      · obtain ⟨b1, o1, rfl, hb1, hc1⟩ := ha.cells (by omega)
        obtain ⟨b2, o2, rfl, hb2, hc2⟩ := hb.cells (by omega)
        have hly : k < ys.length := by omega
        have e1 : xs[k]? = some xs[k] := List.getElem?_eq_getElem hlt
        have e2 : ys[k]? = some ys[k] := List.getElem?_eq_getElem hly
        have Hp := hid e1
        have Hq := hid e2
        have HT := hid ht
        have HL := hid hl
        clear ht hl e1 e2
        generalize xs[k] = p at *
        generalize ys[k] = q at *
        have f0 : w.cell? ⟨b1, o1 + k * 4, none⟩ = some (.int .u8 p.si) := hc1 k _ Hp.out 0 _ rfl
        have f1 : w.cell? ⟨b1, o1 + k * 4 + 1, none⟩ = some (.bool p.su) := hc1 k _ Hp.out 1 _ rfl
        have f2 : w.cell? ⟨b1, o1 + k * 4 + 2, none⟩ = some (.int .i64 p.ea) := hc1 k _ Hp.out 2 _ rfl
        have f3 : w.cell? ⟨b1, o1 + k * 4 + 3, none⟩ = some (.int .i64 p.la) := hc1 k _ Hp.out 3 _ rfl
        have g0 : w.cell? ⟨b2, o2 + k * 4, none⟩ = some (.int .u8 q.si) := hc2 k _ Hq.out 0 _ rfl
        have g1 : w.cell? ⟨b2, o2 + k * 4 + 1, none⟩ = some (.bool q.su) := hc2 k _ Hq.out 1 _ rfl
        have g2 : w.cell? ⟨b2, o2 + k * 4 + 2, none⟩ = some (.int .i64 q.ea) := hc2 k _ Hq.out 2 _ rfl
        have g3 : w.cell? ⟨b2, o2 + k * 4 + 3, none⟩ = some (.int .i64 q.la) := hc2 k _ Hq.out 3 _ rfl
        obtain ⟨hcw, hfw⟩ := bcell hbl
        have hz := hbl.size
        have hb1w : b1 < wr.heap.size := by omega
        have hb2w : b2 < wr.heap.size := by omega
        clear hc1 hc2
        have Heq := hid (eq_Wn_L p q)
        generalize hd : decide (p = q) = d1 at *
        have Hd := hid hd
        clear hd
        have hL := @later_cell wr
        go_wp2_with fail
        refine wp_region_later (by kernel_rfl) (by kernel_rfl) ?_
        repeat (first | go_big_quiet_skip | (go_big_quiet_want; go_big_quiet_op; first | go_big_quiet_on | (apply Exists.intro; refine ⟨fun _ => ?_, ?_⟩; (go_at_call 51; exact quiet_later (Heq.out _)); go_big_quiet_on)))
        refine wpQuiet_nil ?_
        intro x
        cases d1
        · go_wp2_with fail
          go_ret
          refine ⟨ret_bool ?_, below_of hbl hz x.below⟩
          have hne : p ≠ q := of_decide_eq_false Hd.out
          rw [eq_comm, decide_eq_false_iff_not]
          intro e
          apply hne
          have h1 := Hp.out
          rw [e] at h1
          exact Option.some.inj (h1.symm.trans Hq.out)
        · go_wp2_with fail
          have heq : p = q := of_decide_eq_true Hd.out
          refine ⟨⟨k + 1, by omega, by go_num, ?_, below_of hbl hz x.below⟩, by simp [intOf]; omega⟩
          rw [List.take_add_one, List.take_add_one, HT.out, Hp.out, Hq.out, heq]
      · obtain rfl : k = xs.length := by omega
        have HT := hid ht
        have HL := hid hl
        clear ht hl
        go_wp2_with fail
        go_ret
        refine ⟨ret_bool ?_, hbl⟩
        rw [eq_comm, decide_eq_true_iff]
        have := HT.out
        rw [List.take_length, HL.out, List.take_length] at this
        exact this
  · have hl1 : ((xs.length : Int) != ys.length) = true := by rw [bne_iff_ne]; omega
    have HL := hid hl
    clear hl
    go_enter Tryz.func18, Tryz.ntmps18
    go_wp2_with fail
    go_ret
    refine ⟨ret_bool ?_, Below.refl _ _⟩
    rw [eq_comm, decide_eq_false_iff_not]
    intro e
    exact HL.out (by rw [e])
theorem eql_Wn (p q : Wn) (w : World) : (Op.equalIn 10000 88 (.agg p.enc.toArray) (.agg q.enc.toArray)).run Tryz.prog w = .ok (decide (p = q)) w := by
  obtain ⟨si_, su_, ea_, la_⟩ := p
  obtain ⟨si_', su_', ea_', la_'⟩ := q
  have h2 : Tryz.prog.stoodInHeld 88 = false := by kernel_rfl
  simp only [Wn.enc]
  rw [run_equalIn_struct (P := Tryz.prog) w 9999 88 _ _ (by kernel_rfl) h2]
  simp [go_sem, Op.eqFields, Program.fieldsOf, Tryz.underlying88, part]
  repeat' split
  all_goals simp_all
def Wn.mk_ (k : Int) : Wn := ⟨IntKind.u8.wrap (k), decide ((k + 1) % 3 = 0), k + 1 + 1, k + 1 + 1 + 1⟩
set_option maxHeartbeats 400000 in
theorem markS_Wn_L (base : Nat) (A : Option Addr) (c : Nat) (xs : List Wn) (k0 : Int) (w : World) (h : w.ownsRow base 88 4 (.slice A xs.length c) xs.length (xs.flatMap Wn.enc)) (h0 : 0 ≤ k0) (h1 : k0 ≤ 1099511627776) (hs : xs.length ≤ 1073741824) :
    Calls Tryz.prog 25 #[.slice A xs.length c, .int .i64 k0] w fun e w' => e = .returned (.int .i64 (k0 + 4 * xs.length)) ∧ w.grownBy w' (A.map (·.block)) ∧ w'.ownsRow base 88 4 (.slice A xs.length c) xs.length ((markL Wn.mk_ 4 xs.length k0).flatMap Wn.enc) := by
  go_enter Tryz.func25, Tryz.ntmps25
  go_wp2_with fail
  go_loopw [1, 5] (fun kv i wr => ∃ (k : Nat) (cs : List Value), k ≤ xs.length ∧ kv = .int .i64 (k0 + 4 * k) ∧ i = .int .i64 k ∧ cs.take (k * 4) = ((markL Wn.mk_ 4 xs.length k0).take k).flatMap Wn.enc ∧ wr.ownsRow base 88 4 (.slice A xs.length c) xs.length cs ∧ w.grownBy wr (A.map (·.block))) (fun _ i _ => xs.length - (intOf i).toNat)
  case atStart => exact ⟨0, _, Nat.zero_le _, by go_num, rfl, by simp, h, World.grownBy.refl _ _⟩
  case round =>
    obtain ⟨k, cs, hk, rfl, rfl, ht, own, hg⟩ := hrel
    obtain ⟨q, hq⟩ : ∃ q : Int, q = k0 + 4 * k := ⟨_, rfl⟩
    have hq0 : 0 ≤ q := by omega
    have hq1 : q ≤ 1099511627776 + 4 * 1073741824 := by omega
    have Hq := hid hq
    by_cases hlt : k < xs.length
    · obtain ⟨g, rfl⟩ : ∃ g, A = some ⟨g, 0, none⟩ := by
        obtain ⟨g, cap', hv, _, _⟩ := own.form (by omega)
        injection hv with hv1
        exact ⟨g, hv1⟩
      have hp : (markL Wn.mk_ 4 xs.length k0)[k]? = some (Wn.mk_ q) := by rw [markL_get _ _ _ _ _ hlt, hq]; rfl
      have hcs : cs.length = xs.length * 4 := own.1
      have c0 : wr.cell? ⟨g, k * 4, none⟩ = some (cs.getD (k * 4) undef) := (own.cellAt _ (by omega)).trans (getD_some (by omega))
      have z0 : wr.frozen? ⟨g, k * 4, none⟩ = false := own.frozenAt _
      have c1 : wr.cell? ⟨g, k * 4 + 1, none⟩ = some (cs.getD (k * 4 + 1) undef) := (own.cellAt _ (by omega)).trans (getD_some (by omega))
      have z1 : wr.frozen? ⟨g, k * 4 + 1, none⟩ = false := own.frozenAt _
      have c2 : wr.cell? ⟨g, k * 4 + 2, none⟩ = some (cs.getD (k * 4 + 2) undef) := (own.cellAt _ (by omega)).trans (getD_some (by omega))
      have z2 : wr.frozen? ⟨g, k * 4 + 2, none⟩ = false := own.frozenAt _
      have c3 : wr.cell? ⟨g, k * 4 + 3, none⟩ = some (cs.getD (k * 4 + 3) undef) := (own.cellAt _ (by omega)).trans (getD_some (by omega))
      have z3 : wr.frozen? ⟨g, k * 4 + 3, none⟩ = false := own.frozenAt _
      have Ho := hid own
      have Ht := hid ht
      have Hg := hid hg
      have Hp := hid hp
      have Hcs := hid hcs
      rw [← hq]
      clear own ht hg hp hcs hq h
      go_wp2_with fail
      have h0 : _ ∧ _ := Ho.out.stored (k * 4) (.int .u8 (IntKind.u8.wrap (q)))
      have h1 : _ ∧ _ := h0.1.stored (k * 4 + 1) (.bool (decide ((q + 1) % 3 = 0)))
      have h2 : _ ∧ _ := h1.1.stored (k * 4 + 2) (.int .i64 (q + 1 + 1))
      have h3 : _ ∧ _ := h2.1.stored (k * 4 + 3) (.int .i64 (q + 1 + 1 + 1))
      refine ⟨⟨k + 1, _, by omega, ?_, by go_num, flat_take (en := Wn.enc) (fun _ => rfl) Hp.out (by rw [markL_length]; exact Hcs.out) Ht.out, h3.1, ?_⟩, by simp [intOf]; omega⟩
      · have := Hq.out
        congr 1; omega
      · exact World.grownBy.trans (World.grownBy.trans (World.grownBy.trans (World.grownBy.trans (Hg.out) h0.2) h1.2) h2.2) h3.2
    · obtain rfl : k = xs.length := by omega
      have Ho := hid own
      have Ht := hid ht
      rw [← hq]
      clear own ht hq h
      go_wp2_with fail
      go_ret
      have hcs : cs.length = xs.length * 4 := Ho.out.1
      have e : cs = (markL Wn.mk_ 4 xs.length k0).flatMap Wn.enc := by
        have := Ht.out
        rw [List.take_of_length_le (by omega), List.take_of_length_le (by rw [markL_length]; exact Nat.le_refl _)] at this
        exact this
      exact ⟨ret_int Hq.out, hg, by rw [← e]; exact Ho.out⟩
set_option maxHeartbeats 400000 in
theorem heldS_Wn_L (a : Option Addr) (c m : Nat) (k0 : Int) (w : World) (h : SlA Wn.enc 4 w a (markL Wn.mk_ 4 m k0)) (h0 : 0 ≤ k0) (h1 : k0 ≤ 1099511627776) (hs : m ≤ 1073741824) :
    Calls Tryz.prog 26 #[.slice a m c, .int .i64 k0] w fun e w' => e = .returned (.int .i64 (k0 + 4 * m)) ∧ w = w' := by
  go_enter Tryz.func26, Tryz.ntmps26
  go_wp2_with fail
  go_loop [1, 5] (fun kv i => ∃ (k : Nat), k ≤ m ∧ kv = .int .i64 (k0 + 4 * k) ∧ i = .int .i64 k) (fun _ i => m - (intOf i).toNat)
  case atStart => exact ⟨0, Nat.zero_le _, by go_num, rfl⟩
  case round =>
    obtain ⟨k, hk, rfl, rfl⟩ := hrel
    obtain ⟨q, hq⟩ : ∃ q : Int, q = k0 + 4 * k := ⟨_, rfl⟩
    have hq0 : 0 ≤ q := by omega
    have hq1 : q ≤ 1099511627776 + 4 * 1073741824 := by omega
    have Hq := hid hq
    rw [← hq]
    by_cases hlt : k < m
    · obtain ⟨b1, o1, rfl, hb1, hc1⟩ := h.cells (by rw [markL_length]; omega)
      have hp : (markL Wn.mk_ 4 m k0)[k]? = some (Wn.mk_ q) := by rw [markL_get _ _ _ _ _ hlt, hq]; rfl
      have f0 : w.cell? ⟨b1, o1 + k * 4, none⟩ = some (.int .u8 (IntKind.u8.wrap (q))) := hc1 k _ hp 0 _ rfl
      have f1 : w.cell? ⟨b1, o1 + k * 4 + 1, none⟩ = some (.bool (decide ((q + 1) % 3 = 0))) := hc1 k _ hp 1 _ rfl
      have f2 : w.cell? ⟨b1, o1 + k * 4 + 2, none⟩ = some (.int .i64 (q + 1 + 1)) := hc1 k _ hp 2 _ rfl
      have f3 : w.cell? ⟨b1, o1 + k * 4 + 3, none⟩ = some (.int .i64 (q + 1 + 1 + 1)) := hc1 k _ hp 3 _ rfl
      obtain ⟨bb, hbb⟩ : ∃ b : Bool, decide ((q + 1) % 3 = 0) = b := ⟨_, rfl⟩
      rw [hbb] at f1
      have hbt : decide ((q + 1).tmod 3 = 0) = bb := by rw [← hbb, Int.tmod_eq_emod_of_nonneg (by omega)]
      have hbe : ((q + 1) % 3 == 0) = bb := by rw [← hbb]; rfl
      have hbs : (bb != bb) = false := by simp
      have hbs2 : (!bb == bb) = false := by cases bb <;> rfl
      clear hc1 hp hq h hbb
      go_wp2_with fail
      refine ⟨⟨k + 1, by omega, ?_, by go_num⟩, by simp [intOf]; omega⟩
      have := Hq.out
      congr 1; omega
    · obtain rfl : k = m := by omega
      clear hq h
      go_wp2_with fail
      go_ret
      exact ⟨ret_int Hq.out, rfl⟩
end Go.Proofs.YtpnkaooodbfcpaaGreat
