/-
  The laws' own helpers over []int64: copies, comparisons, marks.
  Conditions: lengths up to a bound where memory is made.
-/
import Derived.Test.YtgkgklgeobbmlaaProg
import Derived.Test.YtgkgklgeobbmlaaData
import Derived.Test.YtgkgklgeobbmlaaOb
namespace Go.Proofs.Ytgkgklgeobbmlaa
open Go.RowKit
set_option linter.unusedSimpArgs false

theorem nu_flat (xs : List Int) : (xs.map Nu.mk).flatMap Nu.enc = xs.map (Value.int .i64) := by
  induction xs with
  | nil => rfl
  | cons x xs ih => simp [Nu.enc, ih]
theorem take_set_self {α : Type} (l : List α) (k : Nat) (v : α) (h : k < l.length) : (l.set k v).take (k + 1) = l.take k ++ [v] := by
  rw [List.take_add_one, List.take_set_of_le (Nat.le_refl _), List.getElem?_set_self h]
  rfl
/-- []int64 that is read. -/
structure NuA (w : World) (a : Option Addr) (xs : List Int) : Prop where
  small : xs.length ≤ 9223372036854775807
  cells : 0 < xs.length → ∃ b o, a = some ⟨b, o, none⟩ ∧ b < w.heap.size ∧ ∀ i p, xs[i]? = some p → w.cell? ⟨b, o + i, none⟩ = some (.int .i64 p)
theorem NuA.of_sla {w : World} {a : Option Addr} {xs : List Nu} (h : SlA Nu.enc 1 w a xs) : NuA w a (xs.map Nu.n) := by
  refine ⟨by rw [List.length_map]; exact h.small, fun hp => ?_⟩
  obtain ⟨b, o, e, hb, hc⟩ := h.cells (by simpa using hp)
  refine ⟨b, o, e, hb, fun i p hi => ?_⟩
  rw [List.getElem?_map] at hi
  cases hx : xs[i]? with
  | none => rw [hx] at hi; cases hi
  | some q =>
    rw [hx] at hi
    simp at hi
    subst hi
    have := hc i q hx 0 _ rfl
    simpa using this
theorem NuA.of_own {w : World} {base : Nat} {e : TypeId} {a : Option Addr} {cap : Nat} {xs : List Int} (h : w.ownsRow base e 1 (.slice a xs.length cap) xs.length (xs.map (Value.int .i64))) : NuA w a xs := by
  have e0 : xs.length = (xs.map Nu.mk).length := by simp
  have h' : w.ownsRow base e 1 (.slice a (xs.map Nu.mk).length cap) (xs.map Nu.mk).length ((xs.map Nu.mk).flatMap Nu.enc) := by rw [nu_flat, ← e0]; exact h
  have h2 := NuA.of_sla (SlA.of_own (fun _ => rfl) h')
  have e2 : (xs.map Nu.mk).map Nu.n = xs := by rw [List.map_map]; exact List.map_id'' (fun _ => rfl) xs
  rw [e2] at h2
  exact h2
theorem NuA.below {w w1 : World} {a : Option Addr} {xs : List Int} (h : NuA w a xs) (hb : Below w.heap.size w w1) : NuA w1 a xs :=
  ⟨h.small, fun hp => by
    obtain ⟨b, o, e, hlt, hc⟩ := h.cells hp
    exact ⟨b, o, e, Nat.lt_of_lt_of_le hlt hb.size, fun i p hi => (hb.cell (p := ⟨b, _, none⟩) hlt).trans (hc i p hi)⟩⟩

set_option maxHeartbeats 400000 in
theorem eqS_Nu_L (a b : Option Addr) (c d : Nat) (xs ys : List Int) (w : World) (ha : NuA w a xs) (hb : NuA w b ys) :
    Calls Try.prog 23 #[.slice a xs.length c, .slice b ys.length d] w fun e w' => e = .returned (.bool (decide (xs = ys))) ∧ Below w.heap.size w w' := by
  have sa := ha.small
  have sb := hb.small
  by_cases hl : xs.length = ys.length
  · have hl1 : ((xs.length : Int) != ys.length) = false := by simp [hl]
    go_enter Try.func23, Try.ntmps23
    go_wp2_with fail
    go_loopw [5] (fun i wr => ∃ k : Nat, k ≤ xs.length ∧ i = .int .i64 k ∧ xs.take k = ys.take k ∧ Below w.heap.size w wr) (fun i _ => xs.length - (intOf i).toNat)
    case atStart => exact ⟨0, Nat.zero_le _, rfl, rfl, Below.refl _ _⟩
    case round =>
      obtain ⟨k, hk, rfl, ht, hbl⟩ := hrel
      by_cases hlt : k < xs.length
      · obtain ⟨b1, o1, rfl, hb1, hc1⟩ := ha.cells (by omega)
        obtain ⟨b2, o2, rfl, hb2, hc2⟩ := hb.cells (by omega)
        have hly : k < ys.length := by omega
        have e1 : xs[k]? = some xs[k] := List.getElem?_eq_getElem hlt
        have e2 : ys[k]? = some ys[k] := List.getElem?_eq_getElem hly
        have Hp := hid e1
        have Hq := hid e2
        have HT := hid ht
        have HL := hid hl
        clear ht hl e1 e2
        generalize xs[k] = p at *
        generalize ys[k] = q at *
        have f0 : w.cell? ⟨b1, o1 + k, none⟩ = some (.int .i64 p) := hc1 k _ Hp.out
        have g0 : w.cell? ⟨b2, o2 + k, none⟩ = some (.int .i64 q) := hc2 k _ Hq.out
        obtain ⟨hcw, hfw⟩ := bcell hbl
        have hz := hbl.size
        have hb1w : b1 < wr.heap.size := by omega
        have hb2w : b2 < wr.heap.size := by omega
        clear hc1 hc2
        obtain ⟨d1, hd⟩ : ∃ d1 : Bool, (p != q) = d1 := ⟨_, rfl⟩
        have Hd := hid hd
        have hL := @later_cell wr
        go_wp2_with fail
        refine wp_region_later (by kernel_rfl) (by kernel_rfl) ?_
        repeat (first | go_big_quiet_skip | (go_big_quiet_want; go_big_quiet_op; go_big_quiet_on))
        refine wpQuiet_nil ?_
        intro x
        clear hd
        cases d1
        · go_wp2_with fail
          have heq : p = q := by simpa using Hd.out
          refine ⟨⟨k + 1, by omega, by go_num, ?_, below_of hbl hz x.below⟩, by simp [intOf]; omega⟩
          rw [List.take_add_one, List.take_add_one, HT.out, Hp.out, Hq.out, heq]
        · go_wp2_with fail
          go_ret
          refine ⟨ret_bool ?_, below_of hbl hz x.below⟩
          have hne : p ≠ q := by simpa using Hd.out
          rw [eq_comm, decide_eq_false_iff_not]
          intro e
          apply hne
          have h1 := Hp.out
          rw [e] at h1
          exact Option.some.inj (h1.symm.trans Hq.out)
      · obtain rfl : k = xs.length := by omega
        have HT := hid ht
        have HL := hid hl
        clear ht hl
        go_wp2_with fail
        go_ret
        refine ⟨ret_bool ?_, hbl⟩
        rw [eq_comm, decide_eq_true_iff]
        have := HT.out
        rw [List.take_length, HL.out, List.take_length] at this
        exact this
  · have hl1 : ((xs.length : Int) != ys.length) = true := by rw [bne_iff_ne]; omega
    have HL := hid hl
    clear hl
    go_enter Try.func23, Try.ntmps23
    go_wp2_with fail
    go_ret
    refine ⟨ret_bool ?_, Below.refl _ _⟩
    rw [eq_comm, decide_eq_false_iff_not]
    intro e
    exact HL.out (by rw [e])
set_option maxHeartbeats 400000 in
theorem markS_Nu_L (base : Nat) (A : Option Addr) (c : Nat) (xs : List Int) (k0 : Int) (w : World) (h : w.ownsRow base 2 1 (.slice A xs.length c) xs.length (xs.map (Value.int .i64))) (h0 : 0 ≤ k0) (h1 : k0 ≤ 1099511627776) (hs : xs.length ≤ 1073741824) :
    Calls Try.prog 24 #[.slice A xs.length c, .int .i64 k0] w fun e w' => e = .returned (.int .i64 (k0 + xs.length)) ∧ w.grownBy w' (A.map (·.block)) ∧ w'.ownsRow base 2 1 (.slice A xs.length c) xs.length ((markL id 1 xs.length k0).map (Value.int .i64)) := by
  go_enter Try.func24, Try.ntmps24
  go_wp2_with fail
  go_loopw [1, 5] (fun kv i wr => ∃ (k : Nat) (cs : List Value), k ≤ xs.length ∧ kv = .int .i64 (k0 + k) ∧ i = .int .i64 k ∧ cs.take k = ((markL id 1 xs.length k0).take k).map (Value.int .i64) ∧ wr.ownsRow base 2 1 (.slice A xs.length c) xs.length cs ∧ w.grownBy wr (A.map (·.block))) (fun _ i _ => xs.length - (intOf i).toNat)
  case atStart => exact ⟨0, _, Nat.zero_le _, by go_num, rfl, by simp, h, World.grownBy.refl _ _⟩
  case round =>
    obtain ⟨k, cs, hk, rfl, rfl, ht, own, hg⟩ := hrel
    obtain ⟨q, hq⟩ : ∃ q : Int, q = k0 + k := ⟨_, rfl⟩
    have hq0 : 0 ≤ q := by omega
    have hq1 : q ≤ 1099511627776 + 1073741824 := by omega
    have Hq := hid hq
    by_cases hlt : k < xs.length
    · obtain ⟨g, rfl⟩ : ∃ g, A = some ⟨g, 0, none⟩ := by
        obtain ⟨g, cap', hv, _, _⟩ := own.form (by omega)
        injection hv with hv1
        exact ⟨g, hv1⟩
      have hp : (markL id 1 xs.length k0)[k]? = some q := by
        rw [markL_get _ _ _ _ _ hlt, hq]
        simp
      have hcs : cs.length = xs.length * 1 := own.1
      have c0 : wr.cell? ⟨g, k, none⟩ = some (cs.getD k undef) := (own.cellAt _ (by omega)).trans (getD_some (by omega))
      have z0 : wr.frozen? ⟨g, k, none⟩ = false := own.frozenAt _
      have Ho := hid own
      have Ht := hid ht
      have Hg := hid hg
      have Hp := hid hp
      have Hcs := hid hcs
      rw [← hq]
      clear own ht hg hp hcs hq h
      go_wp2_with fail
      have h0 : _ ∧ _ := Ho.out.stored k (.int .i64 q)
      refine ⟨⟨k + 1, _, by omega, ?_, by go_num, ?_, h0.1, World.grownBy.trans Hg.out h0.2⟩, by simp [intOf]; omega⟩
      · have := Hq.out
        congr 1; omega
      · rw [take_set_self _ _ _ (by have := Hcs.out; omega), Ht.out, List.take_add_one, Hp.out]
        simp
    · obtain rfl : k = xs.length := by omega
      have Ho := hid own
      have Ht := hid ht
      rw [← hq]
      clear own ht hq h
      go_wp2_with fail
      go_ret
      have hcs : cs.length = xs.length * 1 := Ho.out.1
      have e : cs = (markL id 1 xs.length k0).map (Value.int .i64) := by
        have := Ht.out
        rw [List.take_of_length_le (by omega), List.take_of_length_le (by rw [markL_length]; exact Nat.le_refl _)] at this
        exact this
      exact ⟨ret_int Hq.out, hg, by rw [← e]; exact Ho.out⟩
set_option maxHeartbeats 400000 in
theorem heldS_Nu_L (a : Option Addr) (c m : Nat) (k0 : Int) (w : World) (h : NuA w a (markL id 1 m k0)) (h0 : 0 ≤ k0) (h1 : k0 ≤ 1099511627776) (hs : m ≤ 1073741824) :
    Calls Try.prog 25 #[.slice a m c, .int .i64 k0] w fun e w' => e = .returned (.int .i64 (k0 + m)) ∧ w = w' := by
  go_enter Try.func25, Try.ntmps25
  go_wp2_with fail
  go_loop [1, 5] (fun kv i => ∃ (k : Nat), k ≤ m ∧ kv = .int .i64 (k0 + k) ∧ i = .int .i64 k) (fun _ i => m - (intOf i).toNat)
  case atStart => exact ⟨0, Nat.zero_le _, by go_num, rfl⟩
  case round =>
    obtain ⟨k, hk, rfl, rfl⟩ := hrel
    obtain ⟨q, hq⟩ : ∃ q : Int, q = k0 + k := ⟨_, rfl⟩
    have hq0 : 0 ≤ q := by omega
    have hq1 : q ≤ 1099511627776 + 1073741824 := by omega
    have Hq := hid hq
    rw [← hq]
    by_cases hlt : k < m
    · obtain ⟨b1, o1, rfl, hb1, hc1⟩ := h.cells (by rw [markL_length]; omega)
      have hp : (markL id 1 m k0)[k]? = some q := by
        rw [markL_get _ _ _ _ _ hlt, hq]
        simp
      have f0 : w.cell? ⟨b1, o1 + k, none⟩ = some (.int .i64 q) := hc1 k _ hp
      clear hc1 hp hq h
      go_wp2_with fail
      refine ⟨⟨k + 1, by omega, ?_, by go_num⟩, by simp [intOf]; omega⟩
      have := Hq.out
      congr 1; omega
    · obtain rfl : k = m := by omega
      clear hq h
      go_wp2_with fail
      go_ret
      exact ⟨ret_int Hq.out, rfl⟩
theorem NuA.of_en1 {w : World} {a : Option Addr} {xs : List Int} (h : SlA en1 1 w a xs) : NuA w a xs := by
  refine ⟨h.small, fun hp => ?_⟩
  obtain ⟨b, o, e, hb, hc⟩ := h.cells hp
  refine ⟨b, o, e, hb, fun i p hi => ?_⟩
  have := hc i p hi 0 _ rfl
  simpa using this
theorem en1_of_nu {w : World} {a : Option Addr} {xs : List Nu} (h : SlA Nu.enc 1 w a xs) : SlA en1 1 w a (xs.map Nu.n) := by
  refine ⟨by rw [List.length_map]; exact h.small, fun hp => ?_⟩
  obtain ⟨b, o, e, hb, hc⟩ := h.cells (by simpa using hp)
  refine ⟨b, o, e, hb, fun i p hi j u hu => ?_⟩
  rw [List.getElem?_map] at hi
  cases hx : xs[i]? with
  | none => rw [hx] at hi; cases hi
  | some q =>
    rw [hx] at hi
    simp at hi
    subst hi
    exact hc i q hx j u hu
theorem eqS_en1_L (a b : Option Addr) (c d : Nat) (xs ys : List Int) (w : World) (ha : SlA en1 1 w a xs) (hb : SlA en1 1 w b ys) :
    Calls Try.prog 23 #[.slice a xs.length c, .slice b ys.length d] w fun e w' => e = .returned (.bool (decide (xs = ys))) ∧ Below w.heap.size w w' :=
  eqS_Nu_L a b c d xs ys w (.of_en1 ha) (.of_en1 hb)
theorem markS_en1_L (base : Nat) (A : Option Addr) (c : Nat) (xs : List Int) (k0 : Int) (w : World) (h : w.ownsRow base 2 1 (.slice A xs.length c) xs.length (xs.flatMap en1)) (h0 : 0 ≤ k0) (h1 : k0 ≤ 1099511627776) (hs : xs.length ≤ 1073741824) :
    Calls Try.prog 24 #[.slice A xs.length c, .int .i64 k0] w fun e w' => e = .returned (.int .i64 (k0 + 1 * xs.length)) ∧ w.grownBy w' (A.map (·.block)) ∧ w'.ownsRow base 2 1 (.slice A xs.length c) xs.length ((markL id 1 xs.length k0).flatMap en1) := by
  rw [en1_flat] at *
  rw [Int.one_mul]
  exact markS_Nu_L base A c xs k0 w h h0 h1 hs
theorem heldS_en1_L (a : Option Addr) (c m : Nat) (k0 : Int) (w : World) (h : SlA en1 1 w a (markL id 1 m k0)) (h0 : 0 ≤ k0) (h1 : k0 ≤ 1099511627776) (hs : m ≤ 1073741824) :
    Calls Try.prog 25 #[.slice a m c, .int .i64 k0] w fun e w' => e = .returned (.int .i64 (k0 + 1 * m)) ∧ w = w' := by
  rw [Int.one_mul]
  exact heldS_Nu_L a c m k0 w (.of_en1 h) h0 h1 hs
end Go.Proofs.Ytgkgklgeobbmlaa
