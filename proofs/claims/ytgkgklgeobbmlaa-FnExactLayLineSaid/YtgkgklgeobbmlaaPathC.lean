/-
  Paths: which cells are those of a line; both the program's and the reference's.
  Conditions: the fields are in their kinds' ranges.
-/
import Derived.Test.YtgkgklgeobbmlaaPath
namespace Go.Proofs.Ytgkgklgeobbmlaa
open Go.RowKit
set_option linter.unusedSimpArgs false
set_option linter.unusedVariables false

def pathAt (xs : List Ce) (k : Nat) : Bool := match xs[k]? with
  | some p => cellIn p.x p.y 24 24 && (!((xs.take k).any (isC p.x p.y)) && (match k with | 0 => true | j + 1 => match xs[j]? with | some q => !decide (sideG q.x q.y p.x p.y < 0) | none => true))
  | none => true
def pathB (xs : List Ce) : Bool := inB xs.length 1 120 && (List.range xs.length).all (pathAt xs)
theorem pathB_true {xs : List Ce} (h0 : inB xs.length 1 120 = true) (h : ∀ j, j < xs.length → pathAt xs j = true) : pathB xs = true := by
  unfold pathB
  rw [h0]
  simpa using h
theorem pathB_false {xs : List Ce} {k : Nat} (hk : k < xs.length) (h : pathAt xs k = false) : pathB xs = false := by
  unfold pathB
  have : (List.range xs.length).all (pathAt xs) = false := by
    rw [List.all_eq_false]
    exact ⟨k, List.mem_range.2 hk, by simp [h]⟩
  rw [this, Bool.and_false]
theorem pathB_len {xs : List Ce} (h : inB xs.length 1 120 = false) : pathB xs = false := by
  unfold pathB
  rw [h]
  rfl
theorem cellIn_24 {x y : Int} (h : cellIn x y 24 24 = true) : (0 ≤ x ∧ x ≤ 23) ∧ (0 ≤ y ∧ y ≤ 23) := by
  unfold cellIn inB at h
  simp only [Bool.and_eq_true, decide_eq_true_eq] at h
  omega
theorem pathAt_in {xs : List Ce} {k : Nat} {p : Ce} (hp : xs[k]? = some p) (h : pathAt xs k = true) : (0 ≤ p.x ∧ p.x ≤ 23) ∧ (0 ≤ p.y ∧ p.y ≤ 23) := by
  unfold pathAt at h
  rw [hp] at h
  simp only [Bool.and_eq_true] at h
  exact cellIn_24 h.1
theorem SlA.take {α : Type} {enc : α → List Value} {n : Nat} {w : World} {a : Option Addr} {xs : List α} (h : SlA enc n w a xs) (k : Nat) : SlA enc n w a (xs.take k) := by
  refine ⟨?_, fun hp => ?_⟩
  · have := h.small
    rw [List.length_take]
    omega
  · obtain ⟨b, o, e, hb, hc⟩ := h.cells (by rw [List.length_take] at hp; omega)
    refine ⟨b, o, e, hb, fun i p hi j u hu => hc i p ?_ j u hu⟩
    rw [List.getElem?_take] at hi
    split at hi
    · exact hi
    · cases hi
set_option maxRecDepth 100000 in
set_option maxHeartbeats 800000 in
theorem isPath_I (a : Option Addr) (c : Nat) (xs : List Ce) (w : World) (h : SlA Ce.enc 2 w a xs) (hcap : xs.length ≤ c) (ok : ∀ p ∈ xs, p.Ok) :
    Calls Try.prog 99 #[.slice a xs.length c] w fun e w' => e = .returned (.bool (pathB xs)) ∧ Below w.heap.size w w' := by
  have sa := h.small
  go_enter Try.func99, Try.ntmps99
  go_wp2_with fail
  go_loopw [7] (fun i wr => ∃ k : Nat, k ≤ xs.length ∧ i = .int .i64 k ∧ (∀ j, j < k → pathAt xs j = true) ∧ Below w.heap.size w wr) (fun i _ => xs.length - (intOf i).toNat)
  case atStart => exact ⟨0, Nat.zero_le _, rfl, fun j hj => by omega, Below.refl _ _⟩
  case round =>
    obtain ⟨k, hk, rfl, ht, hbl⟩ := hrel
    have HT := hid ht
    clear ht
    by_cases hlt : k < xs.length
    · have hsl := h.below hbl
      obtain ⟨b1, o1, ha, hb1, hc1⟩ := hsl.cells (by omega)
      have e1 : xs[k]? = some xs[k] := List.getElem?_eq_getElem hlt
      have okp := ok _ (List.getElem_mem hlt)
      have Hp := hid e1
      clear e1
      generalize xs[k] = p at *
      have f0 : wr.cell? ⟨b1, o1 + k * 2, none⟩ = some (.int .i8 p.x) := hc1 k _ Hp.out 0 _ rfl
      have f1 : wr.cell? ⟨b1, o1 + k * 2 + 1, none⟩ = some (.int .i8 p.y) := hc1 k _ Hp.out 1 _ rfl
      have hz := hbl.size
      have hkc : (k : Int) ≤ (c : Int) := by omega
      obtain ⟨W0, hW0⟩ : ∃ W, W = wr.alloc (Obj.cells #[.int .i8 p.x, .int .i8 p.y] 36) := ⟨_, rfl⟩
      have B0 : Below wr.heap.size wr W0 := by rw [hW0]; exact (Below.refl _ _).alloc (Nat.le_refl _) _
      have hz0 : wr.heap.size < W0.heap.size := by rw [hW0]; simp
      have c0 : W0.cell? ⟨wr.heap.size, 0, none⟩ = some (.int .i8 p.x) := by rw [hW0]; simp
      have c1 : W0.cell? ⟨wr.heap.size, 1, none⟩ = some (.int .i8 p.y) := by rw [hW0]; simp
      have hs0 := hsl.below B0
      have hb2 : b1 < W0.heap.size := by omega
      have BW := below_of hbl hz B0
      have hlk : (xs.take k).length = k := by rw [List.length_take]; omega
      have Hc := hid (fun (X : Later W0) => placed_I p.x p.y X.w ⟨okp.x0, okp.x1, okp.y0, okp.y1⟩)
      have Hh := hid (fun (X : Later W0) => containsC_I a c (xs.take k) p.x p.y X.w ((hs0.take k).below X.below))
      rw [hlk, ha] at Hh
      subst ha
      obtain ⟨d1, hd1⟩ : ∃ d1 : Bool, cellIn p.x p.y 24 24 = d1 := ⟨_, rfl⟩
      obtain ⟨d2, hd2⟩ : ∃ d2 : Bool, (xs.take k).any (isC p.x p.y) = d2 := ⟨_, rfl⟩
      have hin1 := fun h : d1 = true => cellIn_24 (hd1.trans h)
      rw [hd1] at Hc
      rw [hd2] at Hh
      have hL := @later_cell W0
      rcases Nat.eq_zero_or_pos k with h0 | h0
      · have HO := hid (show pathAt xs k = (d1 && !d2) by unfold pathAt; rw [Hp.out]; simp only [hd1, hd2]; rw [h0]; simp)
        subst h0
        simp only [Nat.zero_mul, Nat.add_zero, Nat.zero_add] at f0 f1
        clear hd1 hd2 hc1 hlk okp hsl hs0 hin1
        have hcs : d1 = false ∨ (d1 = true ∧ d2 = true) ∨ (d1 = true ∧ d2 = false) := by cases d1 <;> cases d2 <;> simp
        rcases hcs with rfl | ⟨rfl, rfl⟩ | ⟨rfl, rfl⟩
        all_goals (
          go_wp2_with fail
          rw [← hW0]
          clear hW0
          refine wp_region_later (by kernel_rfl) (by kernel_rfl) ?_
          repeat (first | go_big_quiet_skip | (go_big_quiet_want; go_big_quiet_op; first | go_big_quiet_on | (apply Exists.intro; refine ⟨fun _ => ?_, ?_⟩; (first | (go_at_call 104; exact quiet_later (Hc.out _)) | (go_at_call 72; exact quiet_later (Hh.out _))); go_big_quiet_on)))
          refine wpQuiet_nil ?_
          rintro ⟨w1, hb9⟩
          dsimp only
          have hzW : w.heap.size ≤ W0.heap.size := by omega
          go_wp2_with fail)
        · go_ret
          exact ⟨ret_bool (pathB_false hlt HO.out).symm, below_of BW hzW hb9⟩
        · go_ret
          exact ⟨ret_bool (pathB_false hlt HO.out).symm, below_of BW hzW hb9⟩
        · exact ⟨⟨1, by omega, by go_num, below_ok HT.out HO.out, below_of BW hzW hb9⟩, by simp [intOf]; omega⟩
      · obtain ⟨j, hj⟩ : ∃ j, k = j + 1 := ⟨k - 1, by omega⟩
        have hjl : j < xs.length := by omega
        have e2 : xs[j]? = some xs[j] := List.getElem?_eq_getElem hjl
        have hin := pathAt_in e2 (HT.out j (by omega))
        have Hq := hid e2
        clear e2
        generalize xs[j] = q at *
        have f2 : W0.cell? ⟨b1, o1 + j * 2, none⟩ = some (.int .i8 q.x) := cell_on B0 (hc1 j _ Hq.out 0 _ rfl)
        have f3 : W0.cell? ⟨b1, o1 + j * 2 + 1, none⟩ = some (.int .i8 q.y) := cell_on B0 (hc1 j _ Hq.out 1 _ rfl)
        have Hs := hid (fun (X : Later W0) (h : d1 = true) => toward_I p.x p.y q.x q.y X.w (by have := hin1 h; omega))
        obtain ⟨d3, hd3⟩ : ∃ d3 : Bool, decide (sideG p.x p.y q.x q.y < 0) = d3 := ⟨_, rfl⟩
        have HO := hid (show pathAt xs k = (d1 && (!d2 && !d3)) by unfold pathAt; rw [Hp.out]; simp only [hd1, hd2]; rw [hj]; simp only [Hq.out]; rw [sideG_swap, hd3])
        generalize sideG p.x p.y q.x q.y = v at *
        have hd0 : decide ((k : Int) > 0) = true := by rw [decide_eq_true_iff]; omega
        have hwk : IntKind.i64.wrap ((k : Int) - 1) = (k : Int) - 1 := IntWalk.i64_in _ (by omega)
        have ht1 : ((k : Int) - 1).toNat = j := by omega
        have hi0 : (0 : Int) ≤ (k : Int) - 1 := by omega
        have hi1 : (k : Int) - 1 < (xs.length : Int) := by omega
        clear hd1 hd2 hc1 hlk okp hsl hin hj hs0 hin1
        have hcs : d1 = false ∨ (d1 = true ∧ d2 = true) ∨ (d1 = true ∧ d2 = false ∧ d3 = true) ∨ (d1 = true ∧ d2 = false ∧ d3 = false) := by cases d1 <;> cases d2 <;> cases d3 <;> simp
        rcases hcs with rfl | ⟨rfl, rfl⟩ | ⟨rfl, rfl, rfl⟩ | ⟨rfl, rfl, rfl⟩
        all_goals (
          go_wp2_with fail
          rw [← hW0]
          clear hW0
          refine wp_region_later (by kernel_rfl) (by kernel_rfl) ?_
          repeat (first | go_big_quiet_skip | (go_big_quiet_want; go_big_quiet_op; first | go_big_quiet_on | (apply Exists.intro; refine ⟨fun _ => ?_, ?_⟩; (first | (go_at_call 104; exact quiet_later (Hc.out _)) | (go_at_call 72; exact quiet_later (Hh.out _)) | (go_at_call 100; exact quiet_later (Hs.out _ (by simp)))); go_big_quiet_on)))
          refine wpQuiet_nil ?_
          rintro ⟨w1, hb9⟩
          dsimp only
          have hzW : w.heap.size ≤ W0.heap.size := by omega
          go_wp2_with fail)
        · go_ret
          exact ⟨ret_bool (pathB_false hlt HO.out).symm, below_of BW hzW hb9⟩
        · go_ret
          exact ⟨ret_bool (pathB_false hlt HO.out).symm, below_of BW hzW hb9⟩
        · go_ret
          exact ⟨ret_bool (pathB_false hlt HO.out).symm, below_of BW hzW hb9⟩
        · exact ⟨⟨k + 1, by omega, by go_num, below_ok HT.out HO.out, below_of BW hzW hb9⟩, by simp [intOf]; omega⟩
    · obtain rfl : k = xs.length := by omega
      have Hin := hid (fun W => in_I xs.length 1 120 W)
      have HB := hid (show inB xs.length 1 120 = pathB xs by
        cases h : inB xs.length 1 120
        · exact (pathB_len h).symm
        · exact (pathB_true h HT.out).symm)
      go_wp2_with fail
      refine (Hin.out _).mono ?_
      rintro e w1 ⟨rfl, rfl⟩
      go_wp2_with fail
      go_ret
      exact ⟨ret_bool HB.out, hbl⟩
end Go.Proofs.Ytgkgklgeobbmlaa
