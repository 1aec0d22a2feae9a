/-
  The piece in a cell, the program's.
  Whether a list has a cell; both the program's and the reference's.
  Conditions: the fields are in their kinds' ranges. none.
-/
import Derived.Test.YtgkgklgeobbmlaaCells
import Derived.Test.YtgkgklgeobbmlaaOb
namespace Go.Proofs.Ytgkgklgeobbmlaa
open Go.RowKit
set_option linter.unusedSimpArgs false
set_option linter.unusedVariables false

theorem atFn_I (p : Pc) (cb : Nat) (x y : Int) (w : World) (hc : cb < w.heap.size) (c0 : w.cell? ⟨cb, 0, none⟩ = some (.int .i8 x)) (c1 : w.cell? ⟨cb, 1, none⟩ = some (.int .i8 y)) :
    Calls Try.prog 116 #[.agg p.enc.toArray, .pointer (some ⟨cb, 0, none⟩)] w fun e w' => e = .returned (.bool (atC x y p)) ∧ Below w.heap.size w w' := by
  have k0 : ∀ o, (w.alloc o).cell? ⟨cb, 0, none⟩ = some (.int .i8 x) := fun o => cell_on ((Below.refl _ _).alloc (Nat.le_refl _) o) c0
  have k1 : ∀ o, (w.alloc o).cell? ⟨cb, 1, none⟩ = some (.int .i8 y) := fun o => cell_on ((Below.refl _ _).alloc (Nat.le_refl _) o) c1
  obtain ⟨px, py, k_, t_, d_⟩ := p
  simp only [Pc.enc] at *
  have hg : Try.prog.eqGuardType Try.prog.depth 36 = false := by kernel_rfl
  have heq := fun W => eql_Ce px py x y W
  obtain ⟨d1, hd⟩ : ∃ d1 : Bool, decide (px = x ∧ py = y) = d1 := ⟨_, rfl⟩
  simp only [hd] at heq
  have Hd := hid hd
  clear hd
  go_enter Try.func116, Try.ntmps116
  go_wp2_with fail
  go_ret
  exact ⟨ret_bool Hd.out.symm, (Below.refl _ _).alloc (Nat.le_refl _) _⟩
set_option maxHeartbeats 400000 in
theorem idxAt_I (a : Option Addr) (c : Nat) (xs : List Pc) (cb : Nat) (x y : Int) (w : World) (h : SlA Pc.enc 5 w a xs) (hc : cb < w.heap.size) (c0 : w.cell? ⟨cb, 0, none⟩ = some (.int .i8 x)) (c1 : w.cell? ⟨cb, 1, none⟩ = some (.int .i8 y)) :
    Calls Try.prog 115 #[.slice a xs.length c, .func (.func 116) #[] #[.pointer (some ⟨cb, 0, none⟩)]] w fun e w' => e = .returned (.int .i64 (idxOf (atC x y) xs)) ∧ Below w.heap.size w w' := by
  have sa := h.small
  go_enter Try.func115, Try.ntmps115
  go_wp2_with fail
  go_loopw [8] (fun i wr => ∃ k : Nat, k ≤ xs.length ∧ i = .int .i64 k ∧ (xs.take k).any (atC x y) = false ∧ Below w.heap.size w wr) (fun i _ => xs.length - (intOf i).toNat)
  case atStart => exact ⟨0, Nat.zero_le _, rfl, rfl, Below.refl _ _⟩
  case round =>
    obtain ⟨k, hk, rfl, ht, hbl⟩ := hrel
    by_cases hlt : k < xs.length
    · obtain ⟨b1, o1, rfl, hb1, hc1⟩ := (h.below hbl).cells (by omega)
      have e1 : xs[k]? = some xs[k] := List.getElem?_eq_getElem hlt
      have Hp := hid e1
      have HT := hid ht
      clear ht e1
      generalize xs[k] = p at *
      have hz := hbl.size
      have Hs := hid (atFn_I p cb x y wr (by omega) ((hbl.cell (p := ⟨cb, _, none⟩) hc).trans c0) ((hbl.cell (p := ⟨cb, _, none⟩) hc).trans c1))
      obtain ⟨r, hr⟩ : ∃ r, atC x y p = r := ⟨_, rfl⟩
      rw [hr] at Hs
      have Hr := hid hr
      have f0 : wr.cell? ⟨b1, o1 + k * 5, none⟩ = some (.int .i8 p.x) := hc1 k _ Hp.out 0 _ rfl
      have f1 : wr.cell? ⟨b1, o1 + k * 5 + 1, none⟩ = some (.int .i8 p.y) := hc1 k _ Hp.out 1 _ rfl
      have f2 : wr.cell? ⟨b1, o1 + k * 5 + 2, none⟩ = some (.int .i8 p.k) := hc1 k _ Hp.out 2 _ rfl
      have f3 : wr.cell? ⟨b1, o1 + k * 5 + 3, none⟩ = some (.int .i8 p.t) := hc1 k _ Hp.out 3 _ rfl
      have f4 : wr.cell? ⟨b1, o1 + k * 5 + 4, none⟩ = some (.int .i8 p.d) := hc1 k _ Hp.out 4 _ rfl
      clear hr hc1
      cases r
      · go_wp2_with fail
        refine Hs.out.mono ?_
        rintro e w1 ⟨rfl, hb9⟩
        go_wp2_with fail
        exact ⟨⟨k + 1, by omega, by go_num, any_step HT.out Hp.out Hr.out, below_of hbl hz hb9⟩, by simp [intOf]; omega⟩
      · go_wp2_with fail
        refine Hs.out.mono ?_
        rintro e w1 ⟨rfl, hb9⟩
        go_wp2_with fail
        go_ret
        exact ⟨ret_int (idxOf_at HT.out Hp.out Hr.out).symm, below_of hbl hz hb9⟩
    · obtain rfl : k = xs.length := by omega
      have HT := hid ht
      clear ht
      go_wp2_with fail
      go_ret
      refine ⟨ret_int ?_, hbl⟩
      have := HT.out
      rw [List.take_length] at this
      exact (idxOf_none this).symm
theorem at_I (b : Nat) (wi hi : Int) (a : Option Addr) (c : Nat) (xs : List Pc) (x y : Int) (w : World) (hb : BdA w b wi hi a xs.length c) (h : SlA Pc.enc 5 w a xs) :
    Calls Try.prog 105 #[.pointer (some ⟨b, 0, none⟩), .agg #[.int .i8 x, .int .i8 y]] w fun e w' => e = .returned (.int .i64 (idxOf (atC x y) xs)) ∧ Below w.heap.size w w' := by
  obtain ⟨W0, hW0⟩ : ∃ W, W = w.alloc (Obj.cells #[.int .i8 x, .int .i8 y] 36) := ⟨_, rfl⟩
  have B0 : Below w.heap.size w W0 := by rw [hW0]; exact (Below.refl _ _).alloc (Nat.le_refl _) _
  have hz0 : w.heap.size < W0.heap.size := by rw [hW0]; simp
  have c0 : W0.cell? ⟨w.heap.size, 0, none⟩ = some (.int .i8 x) := by rw [hW0]; simp
  have c1 : W0.cell? ⟨w.heap.size, 1, none⟩ = some (.int .i8 y) := by rw [hW0]; simp
  have Hs := hid (idxAt_I a c xs w.heap.size x y W0 (h.below B0) hz0 c0 c1)
  have k2 : ∀ o, (w.alloc o).cell? ⟨b, 2, none⟩ = some (.slice a xs.length c) := fun o => cell_on ((Below.refl _ _).alloc (Nat.le_refl _) o) hb.c2
  have HB := hid B0
  clear B0 c0 c1
  go_enter Try.func105, Try.ntmps105
  go_wp2_with fail
  rw [← hW0]
  refine Hs.out.mono ?_
  rintro e w1 ⟨rfl, hb1⟩
  go_wp2_with fail
  go_ret
  exact ⟨rfl, below_of HB.out (by omega) hb1⟩
theorem free_I (b : Nat) (wi hi : Int) (a : Option Addr) (c : Nat) (xs : List Pc) (x y : Int) (w : World) (hb : BdA w b wi hi a xs.length c) (h : SlA Pc.enc 5 w a xs) :
    Calls Try.prog 84 #[.pointer (some ⟨b, 0, none⟩), .agg #[.int .i8 x, .int .i8 y]] w fun e w' => e = .returned (.bool (freeG wi hi xs x y)) ∧ Below w.heap.size w w' := by
  obtain ⟨W0, hW0⟩ : ∃ W, W = w.alloc (Obj.cells #[.int .i8 x, .int .i8 y] 36) := ⟨_, rfl⟩
  have B0 : Below w.heap.size w W0 := by rw [hW0]; exact (Below.refl _ _).alloc (Nat.le_refl _) _
  have hz0 : w.heap.size < W0.heap.size := by rw [hW0]; simp
  have hb0 := hb.below B0 hb.lt
  have Hc := hid (hasB_I b wi hi a xs.length c x y W0 hb0)
  have Hf := hid (fun W (hB : Below W0.heap.size W0 W) => at_I b wi hi a c xs x y W (hb0.below hB hb0.lt) (h.below (B0.trans (hB.mono (by omega)))))
  have hn := find_neg xs x y
  have c0 : W0.cell? ⟨w.heap.size, 0, none⟩ = some (.int .i8 x) := by rw [hW0]; simp
  have c1 : W0.cell? ⟨w.heap.size, 1, none⟩ = some (.int .i8 y) := by rw [hW0]; simp
  obtain ⟨d1, hd1⟩ : ∃ d1 : Bool, cellIn x y wi hi = d1 := ⟨_, rfl⟩
  obtain ⟨d2, hd2⟩ : ∃ d2 : Bool, (!xs.any (atC x y)) = d2 := ⟨_, rfl⟩
  have HG := hid (show freeG wi hi xs x y = (d1 && d2) by unfold freeG; rw [hd1, hd2])
  rw [hd1] at Hc
  rw [hd2] at hn
  generalize idxOf (atC x y) xs = v at *
  have HB := hid B0
  clear hd1 hd2 B0 hb0
  go_enter Try.func84, Try.ntmps84
  go_wp2_with fail
  rw [← hW0]
  clear hW0
  refine Hc.out.mono ?_
  rintro e w1 ⟨rfl, hb1⟩
  have k0 := cell_on hb1 c0
  have k1 := cell_on hb1 c1
  cases d1
  · go_wp2_with fail
    go_ret
    exact ⟨ret_bool (by rw [HG.out]; rfl), below_of HB.out (by omega) hb1⟩
  · go_wp2_with fail
    refine (Hf.out _ hb1).mono ?_
    rintro e w2 ⟨rfl, hb2⟩
    go_wp2_with fail
    go_ret
    exact ⟨ret_bool (by rw [HG.out]; simp [hn]), below_of HB.out (by omega) (below_then hb1 hb2)⟩
set_option maxHeartbeats 400000 in
theorem hasC_S (a : Option Addr) (c : Nat) (xs : List Ce) (x y : Int) (w : World) (h : SlA Ce.enc 2 w a xs) :
    Calls Try.prog 90 #[.slice a xs.length c, .agg #[.int .i8 x, .int .i8 y]] w fun e w' => e = .returned (.bool (xs.any (isC x y))) ∧ Below w.heap.size w w' := by
  have sa := h.small
  have HB : ∀ o, Below w.heap.size w (w.alloc o) := fun o => (Below.refl _ _).alloc (Nat.le_refl _) _
  go_enter Try.func90, Try.ntmps90
  go_wp2_with fail
  go_loopw [5] (fun i wr => ∃ k : Nat, k ≤ xs.length ∧ i = .int .i64 k ∧ (xs.take k).any (isC x y) = false ∧ Below w.heap.size w wr ∧ wr.cell? ⟨w.heap.size, 0, none⟩ = some (.int .i8 x) ∧ wr.cell? ⟨w.heap.size, 1, none⟩ = some (.int .i8 y) ∧ w.heap.size < wr.heap.size) (fun i _ => xs.length - (intOf i).toNat)
  case atStart => exact ⟨0, Nat.zero_le _, rfl, rfl, (HB _), by simp [go_sem], by simp [go_sem], by simp⟩
  case round =>
    obtain ⟨k, hk, rfl, ht, hbl, hx, hy, hsz⟩ := hrel
    by_cases hlt : k < xs.length
    · obtain ⟨b1, o1, rfl, hb1, hc1⟩ := h.cells (by omega)
      have e1 : xs[k]? = some xs[k] := List.getElem?_eq_getElem hlt
      have Hp := hid e1
      have HT := hid ht
      clear ht e1
      generalize xs[k] = p at *
      have f0 : wr.cell? ⟨b1, o1 + k * 2, none⟩ = some (.int .i8 p.x) := (hbl.cell (p := ⟨b1, _, none⟩) hb1).trans (hc1 k _ Hp.out 0 _ rfl)
      have f1 : wr.cell? ⟨b1, o1 + k * 2 + 1, none⟩ = some (.int .i8 p.y) := (hbl.cell (p := ⟨b1, _, none⟩) hb1).trans (hc1 k _ Hp.out 1 _ rfl)
      have hg : Try.prog.eqGuardType Try.prog.depth 36 = false := by kernel_rfl
      have heq := fun W => eql_Ce p.x p.y x y W
      obtain ⟨d1, hd⟩ : ∃ d1 : Bool, decide (p.x = x ∧ p.y = y) = d1 := ⟨_, rfl⟩
      simp only [hd] at heq
      have Hd := hid (show isC x y p = d1 from hd)
      clear hd hc1
      go_wp2_with fail
      go_quiet (fail)
      clear heq hg
      cases d1
      · go_wp2_with fail
        exact ⟨⟨k + 1, by omega, by go_num, any_step HT.out Hp.out Hd.out, below_drewN hbl _, by simpa using hx, by simpa using hy, by simpa using hsz⟩, by simp [intOf]; omega⟩
      · go_wp2_with fail
        go_ret
        refine ⟨ret_bool ?_, below_drewN hbl _⟩
        rw [eq_comm, List.any_eq_true]
        exact ⟨p, List.mem_of_getElem? Hp.out, Hd.out⟩
    · obtain rfl : k = xs.length := by omega
      have HT := hid ht
      clear ht
      go_wp2_with fail
      go_ret
      refine ⟨ret_bool ?_, hbl⟩
      have := HT.out
      rw [List.take_length] at this
      exact this.symm
set_option maxHeartbeats 400000 in
theorem indexC_I (a : Option Addr) (c : Nat) (xs : List Ce) (x y : Int) (w : World) (h : SlA Ce.enc 2 w a xs) :
    Calls Try.prog 98 #[.slice a xs.length c, .agg #[.int .i8 x, .int .i8 y]] w fun e w' => e = .returned (.int .i64 (idxOf (isC x y) xs)) ∧ Below w.heap.size w w' := by
  have sa := h.small
  have HB : ∀ o, Below w.heap.size w (w.alloc o) := fun o => (Below.refl _ _).alloc (Nat.le_refl _) _
  go_enter Try.func98, Try.ntmps98
  go_wp2_with fail
  go_loopw [8] (fun i wr => ∃ k : Nat, k ≤ xs.length ∧ i = .int .i64 k ∧ (xs.take k).any (isC x y) = false ∧ Below w.heap.size w wr ∧ wr.cell? ⟨w.heap.size, 0, none⟩ = some (.int .i8 x) ∧ wr.cell? ⟨w.heap.size, 1, none⟩ = some (.int .i8 y) ∧ w.heap.size < wr.heap.size) (fun i _ => xs.length - (intOf i).toNat)
  case atStart => exact ⟨0, Nat.zero_le _, rfl, rfl, (HB _), by simp [go_sem], by simp [go_sem], by simp⟩
  case round =>
    obtain ⟨k, hk, rfl, ht, hbl, hx, hy, hsz⟩ := hrel
    by_cases hlt : k < xs.length
    · obtain ⟨b1, o1, rfl, hb1, hc1⟩ := h.cells (by omega)
      have e1 : xs[k]? = some xs[k] := List.getElem?_eq_getElem hlt
      have Hp := hid e1
      have HT := hid ht
      clear ht e1
      generalize xs[k] = p at *
      have f0 : wr.cell? ⟨b1, o1 + k * 2, none⟩ = some (.int .i8 p.x) := (hbl.cell (p := ⟨b1, _, none⟩) hb1).trans (hc1 k _ Hp.out 0 _ rfl)
      have f1 : wr.cell? ⟨b1, o1 + k * 2 + 1, none⟩ = some (.int .i8 p.y) := (hbl.cell (p := ⟨b1, _, none⟩) hb1).trans (hc1 k _ Hp.out 1 _ rfl)
      have hg : Try.prog.eqGuardType Try.prog.depth 36 = false := by kernel_rfl
      have heq := fun W => eql_Ce x y p.x p.y W
      obtain ⟨d1, hd⟩ : ∃ d1 : Bool, decide (x = p.x ∧ y = p.y) = d1 := ⟨_, rfl⟩
      simp only [hd] at heq
      have Hd := hid (show isC x y p = d1 by rw [← hd]; unfold isC; rw [decide_eq_decide]; constructor <;> (rintro ⟨h1, h2⟩; exact ⟨h1.symm, h2.symm⟩))
      clear hd hc1
      go_wp2_with fail
      go_quiet (fail)
      clear heq hg
      cases d1
      · go_wp2_with fail
        exact ⟨⟨k + 1, by omega, by go_num, any_step HT.out Hp.out Hd.out, below_drewN hbl _, by simpa using hx, by simpa using hy, by simpa using hsz⟩, by simp [intOf]; omega⟩
      · go_wp2_with fail
        go_ret
        exact ⟨ret_int (idxOf_at HT.out Hp.out Hd.out).symm, below_drewN hbl _⟩
    · obtain rfl : k = xs.length := by omega
      have HT := hid ht
      clear ht
      go_wp2_with fail
      go_ret
      refine ⟨ret_int ?_, hbl⟩
      have := HT.out
      rw [List.take_length] at this
      exact (idxOf_none this).symm
theorem containsC_I (a : Option Addr) (c : Nat) (xs : List Ce) (x y : Int) (w : World) (h : SlA Ce.enc 2 w a xs) :
    Calls Try.prog 72 #[.slice a xs.length c, .agg #[.int .i8 x, .int .i8 y]] w fun e w' => e = .returned (.bool (xs.any (isC x y))) ∧ Below w.heap.size w w' := by
  have HB : ∀ o, Below w.heap.size w (w.alloc o) := fun o => (Below.refl _ _).alloc (Nat.le_refl _) _
  have Hs := hid (fun o => indexC_I a c xs x y (w.alloc o) (h.below (HB o)))
  have Hr := hid (idxOf_ge (isC x y) xs)
  generalize idxOf (isC x y) xs = v at *
  have HB1 := hid HB
  clear HB
  go_enter Try.func72, Try.ntmps72
  go_wp2_with fail
  refine (Hs.out _).mono ?_
  rintro e w1 ⟨rfl, hb⟩
  go_wp2_with fail
  go_ret
  exact ⟨ret_bool Hr.out, below_of (HB1.out _) (by simp) hb⟩
end Go.Proofs.Ytgkgklgeobbmlaa
