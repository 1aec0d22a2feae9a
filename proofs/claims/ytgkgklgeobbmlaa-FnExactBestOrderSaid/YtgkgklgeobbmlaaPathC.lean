/-
  Paths: the side of a cell on which another one is; which cells are those of a line; both the program's and the reference's.
  Paths: which cells are those of a line; both the program's and the reference's.
  Conditions: the numbers lie between -100 and 100. the fields are in their kinds' ranges.
-/
import Derived.Test.YtgkgklgeobbmlaaHasC
import Derived.BigQuiet
namespace Go.Proofs.Ytgkgklgeobbmlaa
open Go.RowKit
set_option linter.unusedSimpArgs false
set_option linter.unusedVariables false

def onSide (ax ay cx cy s : Int) : Bool := decide (nx ax s = cx ∧ ny ay s = cy)
def sideG (ax ay cx cy : Int) : Int := if onSide ax ay cx cy 0 = true then 0 else if onSide ax ay cx cy 1 = true then 1 else if onSide ax ay cx cy 2 = true then 2 else if onSide ax ay cx cy 3 = true then 3 else -1
theorem onSide_02 (ax ay cx cy : Int) : onSide ax ay cx cy 0 = onSide cx cy ax ay 2 := by
  unfold onSide; rw [decide_eq_decide]; simp [nx, ny]; omega
theorem onSide_13 (ax ay cx cy : Int) : onSide ax ay cx cy 1 = onSide cx cy ax ay 3 := by
  unfold onSide; rw [decide_eq_decide]; simp [nx, ny]; omega
theorem sideG_neg (ax ay cx cy : Int) : decide (sideG ax ay cx cy < 0) = !(onSide ax ay cx cy 0 || onSide ax ay cx cy 1 || onSide ax ay cx cy 2 || onSide ax ay cx cy 3) := by
  unfold sideG
  generalize onSide ax ay cx cy 0 = b0
  generalize onSide ax ay cx cy 1 = b1
  generalize onSide ax ay cx cy 2 = b2
  generalize onSide ax ay cx cy 3 = b3
  cases b0 <;> cases b1 <;> cases b2 <;> cases b3 <;> rfl
theorem sideG_swap (ax ay cx cy : Int) : decide (sideG ax ay cx cy < 0) = decide (sideG cx cy ax ay < 0) := by
  rw [sideG_neg, sideG_neg, onSide_02 ax ay cx cy, onSide_13 ax ay cx cy, ← onSide_02 cx cy ax ay, ← onSide_13 cx cy ax ay]
  generalize onSide cx cy ax ay 0 = b0
  generalize onSide cx cy ax ay 1 = b1
  generalize onSide cx cy ax ay 2 = b2
  generalize onSide cx cy ax ay 3 = b3
  cases b0 <;> cases b1 <;> cases b2 <;> cases b3 <;> rfl
theorem sideG_at {ax ay cx cy : Int} {k : Nat} (hk : k < 4) (h : ∀ j, j < k → onSide ax ay cx cy (j : Nat) = false) (e : onSide ax ay cx cy (k : Nat) = true) : sideG ax ay cx cy = k := by
  unfold sideG
  have : k = 0 ∨ k = 1 ∨ k = 2 ∨ k = 3 := by omega
  rcases this with rfl | rfl | rfl | rfl
  · have h0 : onSide ax ay cx cy 0 = true := e
    simp [h0]
  · have h0 : onSide ax ay cx cy 0 = false := h 0 (by omega)
    have h1 : onSide ax ay cx cy 1 = true := e
    simp [h0, h1]
  · have h0 : onSide ax ay cx cy 0 = false := h 0 (by omega)
    have h1 : onSide ax ay cx cy 1 = false := h 1 (by omega)
    have h2 : onSide ax ay cx cy 2 = true := e
    simp [h0, h1, h2]
  · have h0 : onSide ax ay cx cy 0 = false := h 0 (by omega)
    have h1 : onSide ax ay cx cy 1 = false := h 1 (by omega)
    have h2 : onSide ax ay cx cy 2 = false := h 2 (by omega)
    have h3 : onSide ax ay cx cy 3 = true := e
    simp [h0, h1, h2, h3]
theorem sideG_none {ax ay cx cy : Int} (h : ∀ j, j < 4 → onSide ax ay cx cy (j : Nat) = false) : sideG ax ay cx cy = -1 := by
  unfold sideG
  have h0 : onSide ax ay cx cy 0 = false := h 0 (by omega)
  have h1 : onSide ax ay cx cy 1 = false := h 1 (by omega)
  have h2 : onSide ax ay cx cy 2 = false := h 2 (by omega)
  have h3 : onSide ax ay cx cy 3 = false := h 3 (by omega)
  simp [h0, h1, h2, h3]
theorem not_step {p : Nat → Bool} {k : Nat} (h : ∀ j, j < k → p j = false) (e : p k = false) : ∀ j, j < k + 1 → p j = false := by
  intro j hj
  rcases Nat.lt_or_ge j k with h1 | h1
  · exact h j h1
  · obtain rfl : j = k := by omega
    exact e
set_option maxRecDepth 100000 in
theorem sideOf_S (ax ay cx cy : Int) (w : World) (h0 : -100 ≤ ax ∧ ax ≤ 100 ∧ -100 ≤ ay ∧ ay ≤ 100) :
    Calls Try.prog 91 #[.agg #[.int .i8 ax, .int .i8 ay], .agg #[.int .i8 cx, .int .i8 cy]] w fun e w' => e = .returned (.int .i64 (sideG ax ay cx cy)) ∧ Below w.heap.size w w' := by
  have HB : ∀ o1 o2, Below w.heap.size w ((w.alloc o1).alloc o2) := fun o1 o2 => ((Below.refl _ _).alloc (Nat.le_refl _) _).alloc (by simp) _
  go_enter Try.func91, Try.ntmps91
  go_wp2_with fail
  go_loopw [5] (fun i wr => ∃ k : Nat, k ≤ 4 ∧ i = .int .i64 k ∧ (∀ j : Nat, j < k → onSide ax ay cx cy (j : Nat) = false) ∧ Below w.heap.size w wr ∧ wr.cell? ⟨w.heap.size, 0, none⟩ = some (.int .i8 ax) ∧ wr.cell? ⟨w.heap.size, 1, none⟩ = some (.int .i8 ay) ∧ wr.cell? ⟨w.heap.size + 1, 0, none⟩ = some (.int .i8 cx) ∧ wr.cell? ⟨w.heap.size + 1, 1, none⟩ = some (.int .i8 cy) ∧ w.heap.size + 1 < wr.heap.size) (fun i _ => 4 - (intOf i).toNat)
  case atStart => exact ⟨0, Nat.zero_le _, rfl, fun j hj => by omega, HB _ _, by simp [go_sem], by simp [go_sem], by simp [go_sem], by simp [go_sem], by simp⟩
  case round =>
    obtain ⟨k, hk, rfl, ht, hbl, a0, a1, c0, c1, hsz⟩ := hrel
    have HT := hid ht
    clear ht
    by_cases hlt : k < 4
    · have Hn := hid (fun (X : Later wr) => next_S ax ay k X.w h0 (by omega))
      have hg : Try.prog.eqGuardType Try.prog.depth 36 = false := by kernel_rfl
      have heq := fun W => eql_Ce (nx ax k) (ny ay k) cx cy W
      obtain ⟨d1, hd⟩ : ∃ d1 : Bool, onSide ax ay cx cy k = d1 := ⟨_, rfl⟩
      simp only [show decide (nx ax k = cx ∧ ny ay k = cy) = d1 from hd] at heq
      have Hd := hid hd
      generalize nx ax k = px at *
      generalize ny ay k = py at *
      have hz := hbl.size
      have h5 : w.heap.size < wr.heap.size := by omega
      clear hd
      have hL := @later_cell wr
      cases d1
      all_goals (
        go_wp2_with fail
        refine wp_region_later (by kernel_rfl) (by kernel_rfl) ?_
        repeat (first | go_big_quiet_skip | (go_big_quiet_want; go_big_quiet_op; first | go_big_quiet_on | (apply Exists.intro; refine ⟨fun _ => ?_, ?_⟩; (go_at_call 54; exact quiet_later (Hn.out _)); go_big_quiet_on)))
        refine wpQuiet_nil ?_
        rintro ⟨w1, hb1⟩
        dsimp only
        have g0 := cell_on hb1 a0
        have g1 := cell_on hb1 a1
        have g2 := cell_on hb1 c0
        have g3 := cell_on hb1 c1
        have hz1 := hb1.size
        clear heq hg hL)
      · go_wp2_with fail
        exact ⟨⟨k + 1, by omega, by go_num, not_step HT.out Hd.out, below_of hbl hz hb1, g0, g1, g2, g3, by omega⟩, by simp [intOf]; omega⟩
      · go_wp2_with fail
        go_ret
        exact ⟨ret_int (sideG_at hlt HT.out Hd.out).symm, below_of hbl hz hb1⟩
    · obtain rfl : k = 4 := by omega
      go_wp2_with fail
      go_ret
      exact ⟨ret_int (sideG_none HT.out).symm, hbl⟩
set_option maxRecDepth 100000 in
theorem toward_I (ax ay cx cy : Int) (w : World) (h0 : -100 ≤ ax ∧ ax ≤ 100 ∧ -100 ≤ ay ∧ ay ≤ 100) :
    Calls Try.prog 100 #[.agg #[.int .i8 ax, .int .i8 ay], .agg #[.int .i8 cx, .int .i8 cy]] w fun e w' => e = .returned (.int .i64 (sideG ax ay cx cy)) ∧ Below w.heap.size w w' := by
  have HB : ∀ o1 o2, Below w.heap.size w ((w.alloc o1).alloc o2) := fun o1 o2 => ((Below.refl _ _).alloc (Nat.le_refl _) _).alloc (by simp) _
  go_enter Try.func100, Try.ntmps100
  go_wp2_with fail
  go_loopw [6] (fun i wr => ∃ k : Nat, k ≤ 4 ∧ i = .int .i64 k ∧ (∀ j : Nat, j < k → onSide ax ay cx cy (j : Nat) = false) ∧ Below w.heap.size w wr ∧ wr.cell? ⟨w.heap.size, 0, none⟩ = some (.int .i8 ax) ∧ wr.cell? ⟨w.heap.size, 1, none⟩ = some (.int .i8 ay) ∧ wr.cell? ⟨w.heap.size + 1, 0, none⟩ = some (.int .i8 cx) ∧ wr.cell? ⟨w.heap.size + 1, 1, none⟩ = some (.int .i8 cy) ∧ w.heap.size + 1 < wr.heap.size) (fun i _ => 4 - (intOf i).toNat)
  case atStart => exact ⟨0, Nat.zero_le _, rfl, fun j hj => by omega, HB _ _, by simp [go_sem], by simp [go_sem], by simp [go_sem], by simp [go_sem], by simp⟩
  case round =>
    obtain ⟨k, hk, rfl, ht, hbl, a0, a1, c0, c1, hsz⟩ := hrel
    have HT := hid ht
    clear ht
    by_cases hlt : k < 4
    · have Hn := hid (fun (X : Later wr) => next_I ax ay k X.w h0 (by omega))
      have hg : Try.prog.eqGuardType Try.prog.depth 36 = false := by kernel_rfl
      have heq := fun W => eql_Ce (nx ax k) (ny ay k) cx cy W
      obtain ⟨d1, hd⟩ : ∃ d1 : Bool, onSide ax ay cx cy k = d1 := ⟨_, rfl⟩
      simp only [show decide (nx ax k = cx ∧ ny ay k = cy) = d1 from hd] at heq
      have Hd := hid hd
      generalize nx ax k = px at *
      generalize ny ay k = py at *
      have hz := hbl.size
      have h5 : w.heap.size < wr.heap.size := by omega
      clear hd
      have hL := @later_cell wr
      cases d1
      all_goals (
        go_wp2_with fail
        refine wp_region_later (by kernel_rfl) (by kernel_rfl) ?_
        repeat (first | go_big_quiet_skip | (go_big_quiet_want; go_big_quiet_op; first | go_big_quiet_on | (apply Exists.intro; refine ⟨fun _ => ?_, ?_⟩; (go_at_call 68; exact quiet_later (Hn.out _)); go_big_quiet_on)))
        refine wpQuiet_nil ?_
        rintro ⟨w1, hb1⟩
        dsimp only
        have g0 := cell_on hb1 a0
        have g1 := cell_on hb1 a1
        have g2 := cell_on hb1 c0
        have g3 := cell_on hb1 c1
        have hz1 := hb1.size
        clear heq hg hL)
      · go_wp2_with fail
        exact ⟨⟨k + 1, by omega, by go_num, not_step HT.out Hd.out, below_of hbl hz hb1, g0, g1, g2, g3, by omega⟩, by simp [intOf]; omega⟩
      · go_wp2_with fail
        go_ret
        exact ⟨ret_int (sideG_at hlt HT.out Hd.out).symm, below_of hbl hz hb1⟩
    · obtain rfl : k = 4 := by omega
      go_wp2_with fail
      go_ret
      exact ⟨ret_int (sideG_none HT.out).symm, hbl⟩
def pathAt (xs : List Ce) (k : Nat) : Bool := match xs[k]? with
  | some p => cellIn p.x p.y 24 24 && (!((xs.take k).any (isC p.x p.y)) && (match k with | 0 => true | j + 1 => match xs[j]? with | some q => !decide (sideG q.x q.y p.x p.y < 0) | none => true))
  | none => true
def pathB (xs : List Ce) : Bool := inB xs.length 1 120 && (List.range xs.length).all (pathAt xs)
theorem pathB_true {xs : List Ce} (h0 : inB xs.length 1 120 = true) (h : ∀ j, j < xs.length → pathAt xs j = true) : pathB xs = true := by
  unfold pathB
  rw [h0]
  simpa using h
theorem pathB_false {xs : List Ce} {k : Nat} (hk : k < xs.length) (h : pathAt xs k = false) : pathB xs = false := by
  unfold pathB
  have : (List.range xs.length).all (pathAt xs) = false := by
    rw [List.all_eq_false]
    exact ⟨k, List.mem_range.2 hk, by simp [h]⟩
  rw [this, Bool.and_false]
theorem pathB_len {xs : List Ce} (h : inB xs.length 1 120 = false) : pathB xs = false := by
  unfold pathB
  rw [h]
  rfl
theorem cellIn_24 {x y : Int} (h : cellIn x y 24 24 = true) : (0 ≤ x ∧ x ≤ 23) ∧ (0 ≤ y ∧ y ≤ 23) := by
  unfold cellIn inB at h
  simp only [Bool.and_eq_true, decide_eq_true_eq] at h
  omega
theorem pathAt_in {xs : List Ce} {k : Nat} {p : Ce} (hp : xs[k]? = some p) (h : pathAt xs k = true) : (0 ≤ p.x ∧ p.x ≤ 23) ∧ (0 ≤ p.y ∧ p.y ≤ 23) := by
  unfold pathAt at h
  rw [hp] at h
  simp only [Bool.and_eq_true] at h
  exact cellIn_24 h.1
theorem SlA.take {α : Type} {enc : α → List Value} {n : Nat} {w : World} {a : Option Addr} {xs : List α} (h : SlA enc n w a xs) (k : Nat) : SlA enc n w a (xs.take k) := by
  refine ⟨?_, fun hp => ?_⟩
  · have := h.small
    rw [List.length_take]
    omega
  · obtain ⟨b, o, e, hb, hc⟩ := h.cells (by rw [List.length_take] at hp; omega)
    refine ⟨b, o, e, hb, fun i p hi j u hu => hc i p ?_ j u hu⟩
    rw [List.getElem?_take] at hi
    split at hi
    · exact hi
    · cases hi
set_option maxRecDepth 100000 in
set_option maxHeartbeats 800000 in
theorem isPath_I (a : Option Addr) (c : Nat) (xs : List Ce) (w : World) (h : SlA Ce.enc 2 w a xs) (hcap : xs.length ≤ c) (ok : ∀ p ∈ xs, p.Ok) :
    Calls Try.prog 99 #[.slice a xs.length c] w fun e w' => e = .returned (.bool (pathB xs)) ∧ Below w.heap.size w w' := by
  have sa := h.small
  go_enter Try.func99, Try.ntmps99
  go_wp2_with fail
  go_loopw [7] (fun i wr => ∃ k : Nat, k ≤ xs.length ∧ i = .int .i64 k ∧ (∀ j, j < k → pathAt xs j = true) ∧ Below w.heap.size w wr) (fun i _ => xs.length - (intOf i).toNat)
  case atStart => exact ⟨0, Nat.zero_le _, rfl, fun j hj => by omega, Below.refl _ _⟩
  case round =>
    obtain ⟨k, hk, rfl, ht, hbl⟩ := hrel
    have HT := hid ht
    clear ht
    by_cases hlt : k < xs.length
    · have hsl := h.below hbl
      obtain ⟨b1, o1, ha, hb1, hc1⟩ := hsl.cells (by omega)
      have e1 : xs[k]? = some xs[k] := List.getElem?_eq_getElem hlt
      have okp := ok _ (List.getElem_mem hlt)
      have Hp := hid e1
      clear e1
      generalize xs[k] = p at *
      have f0 : wr.cell? ⟨b1, o1 + k * 2, none⟩ = some (.int .i8 p.x) := hc1 k _ Hp.out 0 _ rfl
      have f1 : wr.cell? ⟨b1, o1 + k * 2 + 1, none⟩ = some (.int .i8 p.y) := hc1 k _ Hp.out 1 _ rfl
      have hz := hbl.size
      have hkc : (k : Int) ≤ (c : Int) := by omega
      obtain ⟨W0, hW0⟩ : ∃ W, W = wr.alloc (Obj.cells #[.int .i8 p.x, .int .i8 p.y] 36) := ⟨_, rfl⟩
      have B0 : Below wr.heap.size wr W0 := by rw [hW0]; exact (Below.refl _ _).alloc (Nat.le_refl _) _
      have hz0 : wr.heap.size < W0.heap.size := by rw [hW0]; simp
      have c0 : W0.cell? ⟨wr.heap.size, 0, none⟩ = some (.int .i8 p.x) := by rw [hW0]; simp
      have c1 : W0.cell? ⟨wr.heap.size, 1, none⟩ = some (.int .i8 p.y) := by rw [hW0]; simp
      have hs0 := hsl.below B0
      have hb2 : b1 < W0.heap.size := by omega
      have BW := below_of hbl hz B0
      have hlk : (xs.take k).length = k := by rw [List.length_take]; omega
      have Hc := hid (fun (X : Later W0) => placed_I p.x p.y X.w ⟨okp.x0, okp.x1, okp.y0, okp.y1⟩)
      have Hh := hid (fun (X : Later W0) => containsC_I a c (xs.take k) p.x p.y X.w ((hs0.take k).below X.below))
      rw [hlk, ha] at Hh
      subst ha
      obtain ⟨d1, hd1⟩ : ∃ d1 : Bool, cellIn p.x p.y 24 24 = d1 := ⟨_, rfl⟩
      obtain ⟨d2, hd2⟩ : ∃ d2 : Bool, (xs.take k).any (isC p.x p.y) = d2 := ⟨_, rfl⟩
      have hin1 := fun h : d1 = true => cellIn_24 (hd1.trans h)
      rw [hd1] at Hc
      rw [hd2] at Hh
      have hL := @later_cell W0
      rcases Nat.eq_zero_or_pos k with h0 | h0
      · have HO := hid (show pathAt xs k = (d1 && !d2) by unfold pathAt; rw [Hp.out]; simp only [hd1, hd2]; rw [h0]; simp)
        subst h0
        simp only [Nat.zero_mul, Nat.add_zero, Nat.zero_add] at f0 f1
        clear hd1 hd2 hc1 hlk okp hsl hs0 hin1
        have hcs : d1 = false ∨ (d1 = true ∧ d2 = true) ∨ (d1 = true ∧ d2 = false) := by cases d1 <;> cases d2 <;> simp
        rcases hcs with rfl | ⟨rfl, rfl⟩ | ⟨rfl, rfl⟩
        all_goals (
          go_wp2_with fail
          rw [← hW0]
          clear hW0
          refine wp_region_later (by kernel_rfl) (by kernel_rfl) ?_
          repeat (first | go_big_quiet_skip | (go_big_quiet_want; go_big_quiet_op; first | go_big_quiet_on | (apply Exists.intro; refine ⟨fun _ => ?_, ?_⟩; (first | (go_at_call 104; exact quiet_later (Hc.out _)) | (go_at_call 72; exact quiet_later (Hh.out _))); go_big_quiet_on)))
          refine wpQuiet_nil ?_
          rintro ⟨w1, hb9⟩
          dsimp only
          have hzW : w.heap.size ≤ W0.heap.size := by omega
          go_wp2_with fail)
        · go_ret
          exact ⟨ret_bool (pathB_false hlt HO.out).symm, below_of BW hzW hb9⟩
        · go_ret
          exact ⟨ret_bool (pathB_false hlt HO.out).symm, below_of BW hzW hb9⟩
        · exact ⟨⟨1, by omega, by go_num, below_ok HT.out HO.out, below_of BW hzW hb9⟩, by simp [intOf]; omega⟩
      · obtain ⟨j, hj⟩ : ∃ j, k = j + 1 := ⟨k - 1, by omega⟩
        have hjl : j < xs.length := by omega
        have e2 : xs[j]? = some xs[j] := List.getElem?_eq_getElem hjl
        have hin := pathAt_in e2 (HT.out j (by omega))
        have Hq := hid e2
        clear e2
        generalize xs[j] = q at *
        have f2 : W0.cell? ⟨b1, o1 + j * 2, none⟩ = some (.int .i8 q.x) := cell_on B0 (hc1 j _ Hq.out 0 _ rfl)
        have f3 : W0.cell? ⟨b1, o1 + j * 2 + 1, none⟩ = some (.int .i8 q.y) := cell_on B0 (hc1 j _ Hq.out 1 _ rfl)
        have Hs := hid (fun (X : Later W0) (h : d1 = true) => toward_I p.x p.y q.x q.y X.w (by have := hin1 h; omega))
        obtain ⟨d3, hd3⟩ : ∃ d3 : Bool, decide (sideG p.x p.y q.x q.y < 0) = d3 := ⟨_, rfl⟩
        have HO := hid (show pathAt xs k = (d1 && (!d2 && !d3)) by unfold pathAt; rw [Hp.out]; simp only [hd1, hd2]; rw [hj]; simp only [Hq.out]; rw [sideG_swap, hd3])
        generalize sideG p.x p.y q.x q.y = v at *
        have hd0 : decide ((k : Int) > 0) = true := by rw [decide_eq_true_iff]; omega
        have hwk : IntKind.i64.wrap ((k : Int) - 1) = (k : Int) - 1 := IntWalk.i64_in _ (by omega)
        have ht1 : ((k : Int) - 1).toNat = j := by omega
        have hi0 : (0 : Int) ≤ (k : Int) - 1 := by omega
        have hi1 : (k : Int) - 1 < (xs.length : Int) := by omega
        clear hd1 hd2 hc1 hlk okp hsl hin hj hs0 hin1
        have hcs : d1 = false ∨ (d1 = true ∧ d2 = true) ∨ (d1 = true ∧ d2 = false ∧ d3 = true) ∨ (d1 = true ∧ d2 = false ∧ d3 = false) := by cases d1 <;> cases d2 <;> cases d3 <;> simp
        rcases hcs with rfl | ⟨rfl, rfl⟩ | ⟨rfl, rfl, rfl⟩ | ⟨rfl, rfl, rfl⟩
        all_goals (
          go_wp2_with fail
          rw [← hW0]
          clear hW0
          refine wp_region_later (by kernel_rfl) (by kernel_rfl) ?_
          repeat (first | go_big_quiet_skip | (go_big_quiet_want; go_big_quiet_op; first | go_big_quiet_on | (apply Exists.intro; refine ⟨fun _ => ?_, ?_⟩; (first | (go_at_call 104; exact quiet_later (Hc.out _)) | (go_at_call 72; exact quiet_later (Hh.out _)) | (go_at_call 100; exact quiet_later (Hs.out _ (by simp)))); go_big_quiet_on)))
          refine wpQuiet_nil ?_
          rintro ⟨w1, hb9⟩
          dsimp only
          have hzW : w.heap.size ≤ W0.heap.size := by omega
          go_wp2_with fail)
        · go_ret
          exact ⟨ret_bool (pathB_false hlt HO.out).symm, below_of BW hzW hb9⟩
        · go_ret
          exact ⟨ret_bool (pathB_false hlt HO.out).symm, below_of BW hzW hb9⟩
        · go_ret
          exact ⟨ret_bool (pathB_false hlt HO.out).symm, below_of BW hzW hb9⟩
        · exact ⟨⟨k + 1, by omega, by go_num, below_ok HT.out HO.out, below_of BW hzW hb9⟩, by simp [intOf]; omega⟩
    · obtain rfl : k = xs.length := by omega
      have Hin := hid (fun W => in_I xs.length 1 120 W)
      have HB := hid (show inB xs.length 1 120 = pathB xs by
        cases h : inB xs.length 1 120
        · exact (pathB_len h).symm
        · exact (pathB_true h HT.out).symm)
      go_wp2_with fail
      refine (Hin.out _).mono ?_
      rintro e w1 ⟨rfl, rfl⟩
      go_wp2_with fail
      go_ret
      exact ⟨ret_bool HB.out, hbl⟩
end Go.Proofs.Ytgkgklgeobbmlaa
