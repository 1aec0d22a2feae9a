/-
  Which boards are valid; both the program's and the reference's.
  Which boards are valid: the program's.
  Conditions: the fields are in their kinds' ranges.
-/
import Derived.Test.YtgkgklgeobbmlaaSeen
namespace Go.Proofs.Ytgkgklgeobbmlaa
open Go.RowKit
set_option linter.unusedSimpArgs false
set_option linter.unusedVariables false

def okAt (wi hi : Int) (xs : List Pc) (k : Nat) : Bool := match xs[k]? with
  | some p => pcOk p && (cellIn p.x p.y wi hi && !((xs.take k).any (atC p.x p.y)))
  | none => true
def bdOk (wi hi : Int) (xs : List Pc) : Bool := inB wi 1 24 && (inB hi 1 24 && (decide (xs.length ≤ 200) && (List.range xs.length).all (okAt wi hi xs)))
theorem bdOk_true {wi hi : Int} {xs : List Pc} (h1 : inB wi 1 24 = true) (h2 : inB hi 1 24 = true) (h3 : xs.length ≤ 200) (h : ∀ j, j < xs.length → okAt wi hi xs j = true) : bdOk wi hi xs = true := by
  unfold bdOk
  rw [h1, h2, decide_eq_true h3]
  simpa using h
theorem bdOk_false {wi hi : Int} {xs : List Pc} {k : Nat} (hk : k < xs.length) (h : okAt wi hi xs k = false) : bdOk wi hi xs = false := by
  have : (List.range xs.length).all (okAt wi hi xs) = false := by
    rw [List.all_eq_false]
    exact ⟨k, List.mem_range.2 hk, by simp [h]⟩
  unfold bdOk
  simp [this]
theorem find_ne {xs : List Pc} {k : Nat} {p : Pc} (hp : xs[k]? = some p) : (idxOf (atC p.x p.y) xs != (k : Int)) = (xs.take k).any (atC p.x p.y) := by
  cases h : (xs.take k).any (atC p.x p.y) with
  | false => rw [idxOf_at h hp (by simp [atC])]; simp
  | true =>
    rw [bne_iff_ne]
    intro e
    have hk : k < xs.length := (List.getElem?_eq_some_iff.1 hp).1
    have : xs.any (atC p.x p.y) = true := by
      rw [List.any_eq_true] at h ⊢
      obtain ⟨q, h1, h2⟩ := h
      exact ⟨q, List.mem_of_mem_take h1, h2⟩
    obtain ⟨j, q, e2, h1, h2, h3⟩ := idxOf_some this
    have : j = k := by omega
    subst this
    rw [h] at h3
    cases h3
theorem below_ok {P : Nat → Prop} {k : Nat} (h : ∀ j, j < k → P j) (hk : P k) : ∀ j, j < k + 1 → P j := fun j hj => by
  rcases Nat.lt_or_ge j k with h1 | h1
  · exact h j h1
  · obtain rfl : j = k := by omega
    exact hk
set_option maxRecDepth 100000 in
set_option maxHeartbeats 400000 in
theorem ok_S (b : Nat) (wi hi : Int) (a : Option Addr) (c : Nat) (xs : List Pc) (w : World) (rw_ : -128 ≤ wi ∧ wi ≤ 127 ∧ -128 ≤ hi ∧ hi ≤ 127) (hb : BdA w b wi hi a xs.length c) (h : SlA Pc.enc 5 w a xs) (ok : ∀ p ∈ xs, p.Ok) :
    Calls Try.prog 29 #[.pointer (some ⟨b, 0, none⟩)] w fun e w' => e = .returned (.bool (bdOk wi hi xs)) ∧ Below w.heap.size w w' := by
  have sa := h.small
  have hbd := hb
  obtain ⟨g9, g0, g1, g2⟩ := hb
  obtain ⟨r0, r1, r2, r3⟩ := rw_
  by_cases e1 : inB wi 1 24 = true
  · by_cases e2 : inB hi 1 24 = true
    · have E1 := hid e1
      have E2 := hid e2
      by_cases e3 : 200 < xs.length
      · have : bdOk wi hi xs = false := by simp [bdOk]; omega
        rw [this]
        clear this
        go_enter Try.func29, Try.ntmps29
        go_wp2_with (go_at_call 44; refine (in_S _ _ _ _).mono ?_; rintro e w' ⟨rfl, rfl⟩)
        go_ret
        exact ⟨rfl, Below.refl _ _⟩
      · go_enter Try.func29, Try.ntmps29
        go_wp2_with (go_at_call 44; refine (in_S _ _ _ _).mono ?_; rintro e w' ⟨rfl, rfl⟩)
        clear e1 e2
        go_loopw [3] (fun i wr => ∃ k : Nat, k ≤ xs.length ∧ i = .int .i64 k ∧ (∀ j, j < k → okAt wi hi xs j = true) ∧ Below w.heap.size w wr) (fun i _ => xs.length - (intOf i).toNat)
        case atStart => exact ⟨0, Nat.zero_le _, rfl, fun j hj => by omega, Below.refl _ _⟩
        case round =>
          obtain ⟨k, hk, rfl, ht, hbl⟩ := hrel
          have k0 : wr.cell? ⟨b, 0, none⟩ = some (.int .i8 wi) := (hbl.cell (p := ⟨b, _, none⟩) g9).trans g0
          have k1 : wr.cell? ⟨b, 1, none⟩ = some (.int .i8 hi) := (hbl.cell (p := ⟨b, _, none⟩) g9).trans g1
          have k2 : wr.cell? ⟨b, 2, none⟩ = some (.slice a xs.length c) := (hbl.cell (p := ⟨b, _, none⟩) g9).trans g2
          have HT := hid ht
          clear ht
          by_cases hlt : k < xs.length
          · have hbw := hbd.below hbl g9
            have hsw := h.below hbl
            obtain ⟨b1, o1, rfl, hb1, hc1⟩ := hsw.cells (by omega)
            have e1 : xs[k]? = some xs[k] := List.getElem?_eq_getElem hlt
            have okp : xs[k].Ok := ok _ (List.getElem_mem hlt)
            have Hp := hid e1
            clear e1
            generalize xs[k] = p at *
            have f0 : wr.cell? ⟨b1, o1 + k * 5, none⟩ = some (.int .i8 p.x) := hc1 k _ Hp.out 0 _ rfl
            have f1 : wr.cell? ⟨b1, o1 + k * 5 + 1, none⟩ = some (.int .i8 p.y) := hc1 k _ Hp.out 1 _ rfl
            have f2 : wr.cell? ⟨b1, o1 + k * 5 + 2, none⟩ = some (.int .i8 p.k) := hc1 k _ Hp.out 2 _ rfl
            have f3 : wr.cell? ⟨b1, o1 + k * 5 + 3, none⟩ = some (.int .i8 p.t) := hc1 k _ Hp.out 3 _ rfl
            have f4 : wr.cell? ⟨b1, o1 + k * 5 + 4, none⟩ = some (.int .i8 p.d) := hc1 k _ Hp.out 4 _ rfl
            have hz := hbl.size
            have hbw' : b < wr.heap.size := by omega
            have Hs := hid (fun (x : Later wr) => piece_S p b1 (o1 + k * 5) x.w okp ((later_cell x _ _ hb1).trans f0) ((later_cell x _ _ hb1).trans f1) ((later_cell x _ _ hb1).trans f2) ((later_cell x _ _ hb1).trans f3) ((later_cell x _ _ hb1).trans f4))
            have Hc := hid (fun (x : Later wr) => cellIn_S p.x p.y wi hi x.w ⟨okp.x0, okp.x1, okp.y0, okp.y1⟩ ⟨r0, r1, r2, r3⟩)
            have Hf := hid (fun (x : Later wr) => find_S b wi hi (some ⟨b1, o1, none⟩) c xs p.x p.y x.w (hbw.below x.below hbw') (hsw.below x.below))
            obtain ⟨d1, hd1⟩ : ∃ d1 : Bool, pcOk p = d1 := ⟨_, rfl⟩
            obtain ⟨d2, hd2⟩ : ∃ d2 : Bool, cellIn p.x p.y wi hi = d2 := ⟨_, rfl⟩
            obtain ⟨d3, hd3⟩ : ∃ d3 : Bool, (xs.take k).any (atC p.x p.y) = d3 := ⟨_, rfl⟩
            have hv := find_ne Hp.out
            rw [hd3] at hv
            generalize idxOf (atC p.x p.y) xs = v at *
            rw [hd1] at Hs
            rw [hd2] at Hc
            have HO := hid (show okAt wi hi xs k = (d1 && (d2 && !d3)) by unfold okAt; rw [Hp.out]; simp only [hd1, hd2, hd3])
            clear hd1 hd2 hd3 hc1 f2 f3 f4 hbw hsw okp
            have hL := @later_cell wr
            cases hgood : (d1 && (d2 && !d3))
            · rw [hgood] at HO
              have hbad := bdOk_false hlt HO.out
              have HB := hid hbad.symm
              clear hbad
              have hcs : d1 = false ∨ (d1 = true ∧ d2 = false) ∨ (d1 = true ∧ d2 = true ∧ d3 = true) := by
                revert hgood; cases d1 <;> cases d2 <;> cases d3 <;> simp
              clear hgood
              rcases hcs with rfl | ⟨rfl, rfl⟩ | ⟨rfl, rfl, rfl⟩
              all_goals (
                go_wp2_with fail
                refine wp_region_later (by kernel_rfl) (by kernel_rfl) ?_
                repeat (first | go_big_quiet_skip | (go_big_quiet_want; go_big_quiet_op; first | go_big_quiet_on | (apply Exists.intro; refine ⟨fun _ => ?_, ?_⟩; (first | (go_at_call 61; exact quiet_later (Hs.out _)) | (go_at_call 62; exact quiet_later (Hc.out _)) | (go_at_call 63; exact quiet_later (Hf.out _))); go_big_quiet_on)))
                refine wpQuiet_nil ?_
                intro x
                go_wp2_with fail
                go_ret
                exact ⟨ret_bool HB.out, below_of hbl hz x.below⟩)
            · rw [hgood] at HO
              obtain ⟨rfl, rfl, rfl⟩ : d1 = true ∧ d2 = true ∧ d3 = false := by
                revert hgood; cases d1 <;> cases d2 <;> cases d3 <;> simp
              go_wp2_with fail
              refine wp_region_later (by kernel_rfl) (by kernel_rfl) ?_
              repeat (first | go_big_quiet_skip | (go_big_quiet_want; go_big_quiet_op; first | go_big_quiet_on | (apply Exists.intro; refine ⟨fun _ => ?_, ?_⟩; (first | (go_at_call 61; exact quiet_later (Hs.out _)) | (go_at_call 62; exact quiet_later (Hc.out _)) | (go_at_call 63; exact quiet_later (Hf.out _))); go_big_quiet_on)))
              refine wpQuiet_nil ?_
              intro x
              go_wp2_with fail
              exact ⟨⟨k + 1, by omega, by go_num, below_ok HT.out HO.out, below_of hbl hz x.below⟩, by simp [intOf]; omega⟩
          · obtain rfl : k = xs.length := by omega
            go_wp2_with fail
            go_ret
            exact ⟨ret_bool (bdOk_true E1.out E2.out (by omega) HT.out).symm, hbl⟩
    · have e2' : inB hi 1 24 = false := by simpa using e2
      have : bdOk wi hi xs = false := by simp [bdOk, e2']
      rw [this]
      clear this
      go_enter Try.func29, Try.ntmps29
      go_wp2_with (go_at_call 44; refine (in_S _ _ _ _).mono ?_; rintro e w' ⟨rfl, rfl⟩)
      go_ret
      exact ⟨rfl, Below.refl _ _⟩
  · have e1' : inB wi 1 24 = false := by simpa using e1
    have : bdOk wi hi xs = false := by simp [bdOk, e1']
    rw [this]
    clear this
    go_enter Try.func29, Try.ntmps29
    go_wp2_with (go_at_call 44; refine (in_S _ _ _ _).mono ?_; rintro e w' ⟨rfl, rfl⟩)
    go_ret
    exact ⟨rfl, Below.refl _ _⟩
theorem BdA.kept {w w1 : World} {b : Nat} {wi hi : Int} {a : Option Addr} {n c : Nat} {row : Option Nat} (h : BdA w b wi hi a n c) (hg : w.grownBy w1 row) (hne : some b ≠ row) : BdA w1 b wi hi a n c :=
  ⟨Nat.lt_of_lt_of_le h.lt hg.size, (hg.cell_far ⟨b, _, none⟩ h.lt hne).trans h.c0, (hg.cell_far ⟨b, _, none⟩ h.lt hne).trans h.c1, (hg.cell_far ⟨b, _, none⟩ h.lt hne).trans h.c2⟩
theorem placed_I (x y : Int) (w : World) (h0 : -128 ≤ x ∧ x ≤ 127 ∧ -128 ≤ y ∧ y ≤ 127) :
    Calls Try.prog 104 #[.agg #[.int .i8 x, .int .i8 y]] w fun e w' => e = .returned (.bool (cellIn x y 24 24)) ∧ Below w.heap.size w w' := by
  obtain ⟨_, _, _, _⟩ := h0
  go_enter Try.func104, Try.ntmps104
  go_wp2_with (go_at_call 46; refine (in_I _ _ _ _).mono ?_; rintro e w' ⟨rfl, rfl⟩)
  all_goals go_ret
  all_goals refine ⟨ret_bool ?_, (Below.refl _ _).alloc (Nat.le_refl _) _⟩
  all_goals simp_all [cellIn]
theorem piece_I (p : Pc) (w : World) (hp : p.Ok) :
    Calls Try.prog 79 #[.agg p.enc.toArray] w fun e w' => e = .returned (.bool (pcOk p)) ∧ Below w.heap.size w w' := by
  have Hs := hid (fun W => placed_I p.x p.y W ⟨hp.x0, hp.x1, hp.y0, hp.y1⟩)
  obtain ⟨x, y, k_, t_, d_⟩ := p
  obtain ⟨_, _, _, _, h1, h2, h3, h4, h5, h6⟩ := hp
  simp only [Pc.enc] at *
  go_enter Try.func79, Try.ntmps79
  go_wp2_with (first | (go_at_call 46; refine (in_I _ _ _ _).mono ?_; rintro e w' ⟨rfl, rfl⟩) | (go_at_call 104; refine (Hs.out _).mono ?_; rintro e w' ⟨rfl, hb⟩))
  all_goals go_ret
  all_goals (first | exact ⟨ret_bool (by simp_all [pcOk]), below_of ((Below.refl _ _).alloc (Nat.le_refl _) _) (by simp) (by assumption)⟩ | exact ⟨ret_bool (by simp_all [pcOk]), (Below.refl _ _).alloc (Nat.le_refl _) _⟩)
theorem hasB_I (b : Nat) (wi hi : Int) (a : Option Addr) (n c : Nat) (x y : Int) (w : World) (hb : BdA w b wi hi a n c) :
    Calls Try.prog 80 #[.pointer (some ⟨b, 0, none⟩), .agg #[.int .i8 x, .int .i8 y]] w fun e w' => e = .returned (.bool (cellIn x y wi hi)) ∧ Below w.heap.size w w' := by
  obtain ⟨g9, g0, g1, g2⟩ := hb
  have HB := hid (fun o (n : Nat) => below_drewN ((Below.refl w.heap.size w).alloc (Nat.le_refl _) o) n)
  have hne : b ≠ w.heap.size := by omega
  have HI := hid (show cellIn x y wi hi = (decide (0 ≤ x) && (decide (x < wi) && (decide (0 ≤ y) && decide (y < hi)))) by
    unfold cellIn inB
    rw [show decide (x ≤ wi - 1) = decide (x < wi) by rw [decide_eq_decide]; omega, show decide (y ≤ hi - 1) = decide (y < hi) by rw [decide_eq_decide]; omega, Bool.and_assoc])
  obtain ⟨d1, h1⟩ : ∃ d1, decide (0 ≤ x) = d1 := ⟨_, rfl⟩
  obtain ⟨d2, h2⟩ : ∃ d2, decide (x < wi) = d2 := ⟨_, rfl⟩
  obtain ⟨d3, h3⟩ : ∃ d3, decide (0 ≤ y) = d3 := ⟨_, rfl⟩
  obtain ⟨d4, h4⟩ : ∃ d4, decide (y < hi) = d4 := ⟨_, rfl⟩
  rw [h1, h2, h3, h4] at HI
  have h1' : decide (x ≥ 0) = d1 := h1
  have h3' : decide (y ≥ 0) = d3 := h3
  have hcs : d1 = false ∨ (d1 = true ∧ d2 = false) ∨ (d1 = true ∧ d2 = true ∧ d3 = false) ∨ (d1 = true ∧ d2 = true ∧ d3 = true) := by
    cases d1 <;> cases d2 <;> cases d3 <;> simp
  rcases hcs with rfl | ⟨rfl, rfl⟩ | ⟨rfl, rfl, rfl⟩ | ⟨rfl, rfl, rfl⟩
  all_goals (
    go_enter Try.func80, Try.ntmps80
    go_wp2_with fail
    go_quiet (fail)
    go_wp2_with fail
    go_ret
    exact ⟨ret_bool (by rw [HI.out]; simp), HB.out _ _⟩)
set_option maxRecDepth 100000 in
set_option maxHeartbeats 400000 in
theorem ValidBoard_I (wi hi : Int) (a : Option Addr) (c : Nat) (xs : List Pc) (w : World) (rw_ : -128 ≤ wi ∧ wi ≤ 127 ∧ -128 ≤ hi ∧ hi ≤ 127) (h : SlA Pc.enc 5 w a xs) (ok : ∀ p ∈ xs, p.Ok) :
    Calls Try.prog 41 #[.agg #[.int .i8 wi, .int .i8 hi, .slice a xs.length c]] w fun e w' => e = .returned (.bool (bdOk wi hi xs)) ∧ Below w.heap.size w w' := by
  have sa := h.small
  obtain ⟨r0, r1, r2, r3⟩ := rw_
  have hmm := @run_makeMap Try.prog
  by_cases e1 : inB wi 1 24 = true
  · by_cases e2 : inB hi 1 24 = true
    · have E1 := hid e1
      have E2 := hid e2
      by_cases e3 : 200 < xs.length
      · have : bdOk wi hi xs = false := by simp [bdOk]; omega
        rw [this]
        clear this
        go_enter Try.func41, Try.ntmps41
        go_wp2_with (go_at_call 46; refine (in_I _ _ _ _).mono ?_; rintro e w' ⟨rfl, rfl⟩)
        go_ret
        exact ⟨rfl, (Below.refl _ _).alloc (Nat.le_refl _) _⟩
      · have hbd0 : ∀ o, BdA ((w.alloc (.cells #[.int .i8 wi, .int .i8 hi, .slice a xs.length c] 32)).alloc o) w.heap.size wi hi a xs.length c := fun o => ⟨by simp; omega, by simp [go_sem], by simp [go_sem], by simp [go_sem]⟩
        have B0 : ∀ o1 o2, Below w.heap.size w ((w.alloc o1).alloc o2) := fun o1 o2 => ((Below.refl _ _).alloc (Nat.le_refl _) _).alloc (by simp) _
        have HB0 := hid B0
        have HD0 := hid hbd0
        clear B0 hbd0
        go_enter Try.func41, Try.ntmps41
        go_wp2_with (go_at_call 46; refine (in_I _ _ _ _).mono ?_; rintro e w' ⟨rfl, rfl⟩)
        clear e1 e2
        go_loopw [28] (fun i wr => ∃ k : Nat, k ≤ xs.length ∧ i = .int .i64 k ∧ (∀ j, j < k → okAt wi hi xs j = true) ∧ Below w.heap.size w wr ∧ Seen wr (w.heap.size + 1) k (fun x y => (xs.take k).any (atC x y)) ∧ BdA wr w.heap.size wi hi a xs.length c) (fun i _ => xs.length - (intOf i).toNat)
        case atStart => exact ⟨0, Nat.zero_le _, rfl, fun j hj => by omega, HB0.out _ _, by simpa using seen_made (w.alloc _), HD0.out _⟩
        case round =>
          obtain ⟨k, hk, rfl, ht, hbl, hsn, hbd⟩ := hrel
          have HT := hid ht
          clear ht
          by_cases hlt : k < xs.length
          · have hsw := h.below hbl
            obtain ⟨b1, o1, rfl, hb1, hc1⟩ := hsw.cells (by omega)
            have e1 : xs[k]? = some xs[k] := List.getElem?_eq_getElem hlt
            have okp : xs[k].Ok := ok _ (List.getElem_mem hlt)
            have Hp := hid e1
            clear e1
            generalize xs[k] = p at *
            have f0 : wr.cell? ⟨b1, o1 + k * 5, none⟩ = some (.int .i8 p.x) := hc1 k _ Hp.out 0 _ rfl
            have f1 : wr.cell? ⟨b1, o1 + k * 5 + 1, none⟩ = some (.int .i8 p.y) := hc1 k _ Hp.out 1 _ rfl
            have f2 : wr.cell? ⟨b1, o1 + k * 5 + 2, none⟩ = some (.int .i8 p.k) := hc1 k _ Hp.out 2 _ rfl
            have f3 : wr.cell? ⟨b1, o1 + k * 5 + 3, none⟩ = some (.int .i8 p.t) := hc1 k _ Hp.out 3 _ rfl
            have f4 : wr.cell? ⟨b1, o1 + k * 5 + 4, none⟩ = some (.int .i8 p.d) := hc1 k _ Hp.out 4 _ rfl
            have hz := hbl.size
            have hbw' : w.heap.size < wr.heap.size := hbd.lt
            have hsl := hsn.lt
            have ht8 : k < maxLen := by unfold maxLen; omega
            have Hs := hid (fun W => piece_I p W okp)
            have Hh := hid (fun W hb => hasB_I w.heap.size wi hi (some ⟨b1, o1, none⟩) xs.length c p.x p.y W hb)
            obtain ⟨d1, hd1⟩ : ∃ d1 : Bool, pcOk p = d1 := ⟨_, rfl⟩
            obtain ⟨d2, hd2⟩ : ∃ d2 : Bool, cellIn p.x p.y wi hi = d2 := ⟨_, rfl⟩
            obtain ⟨d3, hd3⟩ : ∃ d3 : Bool, (xs.take k).any (atC p.x p.y) = d3 := ⟨_, rfl⟩
            rw [hd1] at Hs
            rw [hd2] at Hh
            have HO := hid (show okAt wi hi xs k = (d1 && (d2 && !d3)) by unfold okAt; rw [Hp.out]; simp only [hd1, hd2, hd3])
            have Hl := hid (fun (W : World) (n : Nat) (hw : Seen W (w.heap.size + 1) n (fun x y => (xs.take k).any (atC x y))) => hd3 ▸ hw.look ⟨okp.x0, okp.x1⟩ ⟨okp.y0, okp.y1⟩)
            have Hu := hid (fun (W : World) (hw : Seen W (w.heap.size + 1) k (fun x y => (xs.take k).any (atC x y))) => hw.store ht8 ⟨okp.x0, okp.x1⟩ ⟨okp.y0, okp.y1⟩)
            have HS := hid (show (fun (u v : Int) => decide (u = p.x ∧ v = p.y) || (xs.take k).any (atC u v)) = (fun u v => (xs.take (k + 1)).any (atC u v)) by
              funext u v
              rw [List.take_add_one, Hp.out, List.any_append]
              simp [atC, Bool.or_comm, eq_comm])
            simp only [Pc.enc] at Hs
            have HQ := hid hsn
            have HR := hid hbd
            clear hd1 hd2 hd3 hc1 hsw okp hsn hbd
            cases d1
            · have HB := hid (bdOk_false hlt HO.out).symm
              go_wp2_with fail
              refine (Hs.out _).mono ?_
              rintro e w1 ⟨rfl, hb2⟩
              go_wp2_with fail
              go_ret
              exact ⟨ret_bool HB.out, below_of (hbl.alloc hz _) (by simp; omega) hb2⟩
            · go_wp2_with fail
              refine (Hs.out _).mono ?_
              rintro e w1 ⟨rfl, hb2⟩
              obtain ⟨hcc, hff⟩ := bcell hb2
              have B1 := below_then ((Below.refl wr.heap.size wr).alloc (Nat.le_refl _) _) hb2
              have hz1 := hb2.size
              simp only [World.size_alloc] at hz1
              go_wp2_with fail
              refine (Hh.out _ (HR.out.below B1 hbw')).mono ?_
              rintro e w2 ⟨rfl, hb3⟩
              obtain ⟨hcc2, hff2⟩ := bcell hb3
              have B2 := below_then B1 hb3
              have hz2 := hb3.size
              have s1 : wr.heap.size < w1.heap.size := by omega
              cases d2
              · have HB := hid (bdOk_false hlt HO.out).symm
                go_wp2_with fail
                go_ret
                exact ⟨ret_bool HB.out, below_of hbl hz B2⟩
              · have hlk := Hl.out w2 k (HQ.out.below B2 hsl)
                cases d3
                · have hsn2 := HQ.out.below B2 hsl
                  have hbd2 := HR.out.below B2 hbw'
                  obtain ⟨w3, hst, hs3, hg3⟩ := Hu.out w2 hsn2
                  rw [HS.out] at hs3
                  have HX := hid hs3
                  have HY := hid (hbd2.kept hg3 (by simp))
                  have HZ := hid ((below_of hbl hz B2).grown hg3 (Below.size (below_of hbl hz B2)) (fun j hj => by cases hj; omega))
                  clear hsn2 hbd2 hs3
                  go_wp2_with fail
                  exact ⟨⟨k + 1, by omega, by go_num, below_ok HT.out HO.out, HZ.out, HX.out, HY.out⟩, by simp [intOf]; omega⟩
                · have HB := hid (bdOk_false hlt HO.out).symm
                  go_wp2_with fail
                  go_ret
                  exact ⟨ret_bool HB.out, below_of hbl hz B2⟩
          · obtain rfl : k = xs.length := by omega
            go_wp2_with fail
            go_ret
            exact ⟨ret_bool (bdOk_true E1.out E2.out (by omega) HT.out).symm, hbl⟩
    · have e2' : inB hi 1 24 = false := by simpa using e2
      have : bdOk wi hi xs = false := by simp [bdOk, e2']
      rw [this]
      clear this
      go_enter Try.func41, Try.ntmps41
      go_wp2_with (go_at_call 46; refine (in_I _ _ _ _).mono ?_; rintro e w' ⟨rfl, rfl⟩)
      go_ret
      exact ⟨rfl, (Below.refl _ _).alloc (Nat.le_refl _) _⟩
  · have e1' : inB wi 1 24 = false := by simpa using e1
    have : bdOk wi hi xs = false := by simp [bdOk, e1']
    rw [this]
    clear this
    go_enter Try.func41, Try.ntmps41
    go_wp2_with (go_at_call 46; refine (in_I _ _ _ _).mono ?_; rintro e w' ⟨rfl, rfl⟩)
    go_ret
    exact ⟨rfl, (Below.refl _ _).alloc (Nat.le_refl _) _⟩
end Go.Proofs.Ytgkgklgeobbmlaa
