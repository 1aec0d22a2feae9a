/-
  Boards: cells and pieces that are right, the piece in a cell, the board in a box; both the program's and the reference's.
  Conditions: the fields are in their kinds' ranges.
-/
import Derived.Test.YtgkgklgeobbmlaaSmall
import Derived.ChangeKeysEq
namespace Go.Proofs.Ytgkgklgeobbmlaa
open Go.RowKit
set_option linter.unusedSimpArgs false
set_option linter.unusedVariables false

def cellIn (x y wi hi : Int) : Bool := inB x 0 (wi - 1) && inB y 0 (hi - 1)
def pcOk (p : Pc) : Bool := inB p.k 0 5 && (inB p.t 0 3 && (inB p.d 1 9 && cellIn p.x p.y 24 24))
def atC (x y : Int) (p : Pc) : Bool := decide (p.x = x ∧ p.y = y)
/-- The board in a box of its own. -/
structure BdA (w : World) (b : Nat) (wi hi : Int) (a : Option Addr) (n c : Nat) : Prop where
  lt : b < w.heap.size
  c0 : w.cell? ⟨b, 0, none⟩ = some (.int .i8 wi)
  c1 : w.cell? ⟨b, 1, none⟩ = some (.int .i8 hi)
  c2 : w.cell? ⟨b, 2, none⟩ = some (.slice a n c)
theorem BdA.below {w w1 : World} {b : Nat} {wi hi : Int} {a : Option Addr} {n c B : Nat} (h : BdA w b wi hi a n c) (hb : Below B w w1) (hB : b < B) : BdA w1 b wi hi a n c :=
  ⟨Nat.lt_of_lt_of_le h.lt hb.size, (hb.cell (p := ⟨b, _, none⟩) hB).trans h.c0, (hb.cell (p := ⟨b, _, none⟩) hB).trans h.c1, (hb.cell (p := ⟨b, _, none⟩) hB).trans h.c2⟩
theorem bd_box (w : World) (wi hi : Int) (A : Option Addr) (n c : Nat) (t : TypeId) : BdA (w.alloc (.cells #[.int .i8 wi, .int .i8 hi, .slice A n c] t)) w.heap.size wi hi A n c := ⟨by simp, by simp [go_sem], by simp [go_sem], by simp [go_sem]⟩
theorem eql_Ce (x y z v : Int) (w : World) : (Op.equalIn 10000 36 (.agg #[.int .i8 x, .int .i8 y]) (.agg #[.int .i8 z, .int .i8 v])).run Try.prog w = .ok (decide (x = z ∧ y = v)) w := by
  have hsome : (Try.prog.info? 22).isSome = true := by kernel_rfl
  obtain ⟨i, hi⟩ := Option.isSome_iff_exists.1 hsome
  clear hsome
  have hc : Try.prog.cellsOf 22 = 1 := by kernel_rfl
  have hv := Try.underlying22
  have hu := Try.underlying36
  rw [run_equalIn_array (P := Try.prog) (w := w) 9999 _ _ hu hi, show List.range 2 = [0, 1] from rfl]
  simp [go_sem, Op.eqItems, hc, part, hv]
  by_cases h1 : x = z <;> by_cases h2 : y = v <;> simp [h1, h2]
theorem cellIn_S (x y wi hi : Int) (w : World) (h0 : -128 ≤ x ∧ x ≤ 127 ∧ -128 ≤ y ∧ y ≤ 127) (h1 : -128 ≤ wi ∧ wi ≤ 127 ∧ -128 ≤ hi ∧ hi ≤ 127) :
    Calls Try.prog 62 #[.agg #[.int .i8 x, .int .i8 y], .int .i64 wi, .int .i64 hi] w fun e w' => e = .returned (.bool (cellIn x y wi hi)) ∧ Below w.heap.size w w' := by
  obtain ⟨_, _, _, _⟩ := h0
  obtain ⟨_, _, _, _⟩ := h1
  go_enter Try.func62, Try.ntmps62
  go_wp2_with (go_at_call 44; refine (in_S _ _ _ _).mono ?_; rintro e w' ⟨rfl, rfl⟩)
  all_goals go_ret
  all_goals refine ⟨ret_bool ?_, (Below.refl _ _).alloc (Nat.le_refl _) _⟩
  all_goals simp_all [cellIn]
theorem piece_S (p : Pc) (b o : Nat) (w : World) (hp : p.Ok) (f0 : w.cell? ⟨b, o, none⟩ = some (.int .i8 p.x)) (f1 : w.cell? ⟨b, o + 1, none⟩ = some (.int .i8 p.y)) (f2 : w.cell? ⟨b, o + 2, none⟩ = some (.int .i8 p.k)) (f3 : w.cell? ⟨b, o + 3, none⟩ = some (.int .i8 p.t)) (f4 : w.cell? ⟨b, o + 4, none⟩ = some (.int .i8 p.d)) :
    Calls Try.prog 61 #[.pointer (some ⟨b, o, none⟩)] w fun e w' => e = .returned (.bool (pcOk p)) ∧ Below w.heap.size w w' := by
  have Hs := hid (fun W => cellIn_S p.x p.y 24 24 W ⟨hp.x0, hp.x1, hp.y0, hp.y1⟩ (by omega))
  obtain ⟨_, _, _, _, h1, h2, h3, h4, h5, h6⟩ := hp
  go_enter Try.func61, Try.ntmps61
  go_wp2_with (first | (go_at_call 44; refine (in_S _ _ _ _).mono ?_; rintro e w' ⟨rfl, rfl⟩) | (go_at_call 62; refine (Hs.out _).mono ?_; rintro e w' ⟨rfl, hb⟩))
  all_goals go_ret
  all_goals (first | exact ⟨ret_bool (by simp_all [pcOk]), by assumption⟩ | exact ⟨ret_bool (by simp_all [pcOk]), Below.refl _ _⟩)
set_option maxHeartbeats 400000 in
theorem find_S (b : Nat) (wi hi : Int) (a : Option Addr) (c : Nat) (xs : List Pc) (x y : Int) (w : World) (hb : BdA w b wi hi a xs.length c) (h : SlA Pc.enc 5 w a xs) :
    Calls Try.prog 63 #[.pointer (some ⟨b, 0, none⟩), .agg #[.int .i8 x, .int .i8 y]] w fun e w' => e = .returned (.int .i64 (idxOf (atC x y) xs)) ∧ Below w.heap.size w w' := by
  have sa := h.small
  obtain ⟨g9, g0, g1, g2⟩ := hb
  have HB : ∀ o, Below w.heap.size w (w.alloc o) := fun o => (Below.refl _ _).alloc (Nat.le_refl _) _
  go_enter Try.func63, Try.ntmps63
  go_wp2_with fail
  go_loopw [5] (fun i wr => ∃ k : Nat, k ≤ xs.length ∧ i = .int .i64 k ∧ (xs.take k).any (atC x y) = false ∧ Below w.heap.size w wr ∧ wr.cell? ⟨w.heap.size, 0, none⟩ = some (.int .i8 x) ∧ wr.cell? ⟨w.heap.size, 1, none⟩ = some (.int .i8 y) ∧ w.heap.size < wr.heap.size) (fun i _ => xs.length - (intOf i).toNat)
  case atStart => exact ⟨0, Nat.zero_le _, rfl, rfl, (HB _), by simp [go_sem], by simp [go_sem], by simp⟩
  case round =>
    obtain ⟨k, hk, rfl, ht, hbl, hx, hy, hsz⟩ := hrel
    have k2 : wr.cell? ⟨b, 2, none⟩ = some (.slice a xs.length c) := (hbl.cell (p := ⟨b, _, none⟩) g9).trans g2
    by_cases hlt : k < xs.length
    · obtain ⟨b1, o1, rfl, hb1, hc1⟩ := h.cells (by omega)
      have e1 : xs[k]? = some xs[k] := List.getElem?_eq_getElem hlt
      have Hp := hid e1
      have HT := hid ht
      clear ht e1
      generalize xs[k] = p at *
      have f0 : wr.cell? ⟨b1, o1 + k * 5, none⟩ = some (.int .i8 p.x) := (hbl.cell (p := ⟨b1, _, none⟩) hb1).trans (hc1 k _ Hp.out 0 _ rfl)
      have f1 : wr.cell? ⟨b1, o1 + k * 5 + 1, none⟩ = some (.int .i8 p.y) := (hbl.cell (p := ⟨b1, _, none⟩) hb1).trans (hc1 k _ Hp.out 1 _ rfl)
      have hg : Try.prog.eqGuardType Try.prog.depth 36 = false := by kernel_rfl
      have heq := fun W => eql_Ce p.x p.y x y W
      obtain ⟨d1, hd⟩ : ∃ d1 : Bool, decide (p.x = x ∧ p.y = y) = d1 := ⟨_, rfl⟩
      simp only [hd] at heq
      have Hd := hid hd
      clear hd hc1
      go_wp2_with fail
      go_quiet (fail)
      clear heq hg
      cases d1
      · go_wp2_with fail
        exact ⟨⟨k + 1, by omega, by go_num, any_step HT.out Hp.out Hd.out, below_drewN hbl _, by simpa using hx, by simpa using hy, by simpa using hsz⟩, by simp [intOf]; omega⟩
      · go_wp2_with fail
        go_ret
        exact ⟨ret_int (idxOf_at HT.out Hp.out Hd.out).symm, below_drewN hbl _⟩
    · obtain rfl : k = xs.length := by omega
      have HT := hid ht
      clear ht
      go_wp2_with fail
      go_ret
      refine ⟨ret_int ?_, hbl⟩
      have := HT.out
      rw [List.take_length] at this
      exact (idxOf_none this).symm
end Go.Proofs.Ytgkgklgeobbmlaa
