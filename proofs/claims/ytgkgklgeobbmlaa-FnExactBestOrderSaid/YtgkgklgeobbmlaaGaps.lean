/-
  Gaps: whether a list has a number; which gaps are right for a board; both the program's and the reference's.
  Conditions: the fields are in their kinds' ranges.
-/
import Derived.Test.YtgkgklgeobbmlaaValidI
import Derived.Test.YtgkgklgeobbmlaaOb
namespace Go.Proofs.Ytgkgklgeobbmlaa
open Go.RowKit
set_option linter.unusedSimpArgs false
set_option linter.unusedVariables false

theorem en1_cells {w : World} {a : Option Addr} {xs : List Int} (h : SlA en1 1 w a xs) (hp : 0 < xs.length) : ∃ b o, a = some ⟨b, o, none⟩ ∧ b < w.heap.size ∧ ∀ i p, xs[i]? = some p → w.cell? ⟨b, o + i, none⟩ = some (.int .i64 p) := by
  obtain ⟨b, o, e, hb, hc⟩ := h.cells hp
  exact ⟨b, o, e, hb, fun i p hi => by have := hc i p hi 0 _ rfl; simpa using this⟩
def isN (n x : Int) : Bool := decide (x = n)
def gapAt (m : Nat) (gs : List Int) (k : Nat) : Bool := match gs[k]? with
  | some g => inB g 0 ((m : Int) - 1) && (match k with | 0 => true | j + 1 => decide (gs.getD j 0 < g))
  | none => true
def gapsB (m : Nat) (gs : List Int) : Bool := (List.range gs.length).all (gapAt m gs)
theorem gapsB_true {m : Nat} {gs : List Int} (h : ∀ j, j < gs.length → gapAt m gs j = true) : gapsB m gs = true := by
  unfold gapsB
  simpa using h
theorem gapsB_false {m : Nat} {gs : List Int} {k : Nat} (hk : k < gs.length) (h : gapAt m gs k = false) : gapsB m gs = false := by
  unfold gapsB
  rw [List.all_eq_false]
  exact ⟨k, List.mem_range.2 hk, by simp [h]⟩
def builtG (wi hi : Int) (xs : List Pc) : Int := if bdOk wi hi xs = true then (if 40 < xs.length then 3 else 0) else 1
def gapsG (wi hi : Int) (xs : List Pc) (gs : List Int) : Int := if builtG wi hi xs ≠ 0 then builtG wi hi xs else if gapsB xs.length gs = true then 0 else 2
theorem index_en1_I (a : Option Addr) (c : Nat) (xs : List Int) (n : Int) (w : World) (h : SlA en1 1 w a xs) :
    Calls Try.prog 106 #[.slice a xs.length c, .int .i64 n] w fun e w' => e = .returned (.int .i64 (idxOf (isN n) xs)) ∧ Below w.heap.size w w' := by
  have sa := h.small
  go_enter Try.func106, Try.ntmps106
  go_wp2_with fail
  go_loopw [8] (fun i wr => ∃ k : Nat, k ≤ xs.length ∧ i = .int .i64 k ∧ (xs.take k).any (isN n) = false ∧ Below w.heap.size w wr) (fun i _ => xs.length - (intOf i).toNat)
  case atStart => exact ⟨0, Nat.zero_le _, rfl, rfl, Below.refl _ _⟩
  case round =>
    obtain ⟨k, hk, rfl, ht, hbl⟩ := hrel
    by_cases hlt : k < xs.length
    · obtain ⟨b1, o1, rfl, hb1, hc1⟩ := en1_cells (h.below hbl) (by omega)
      have e1 : xs[k]? = some xs[k] := List.getElem?_eq_getElem hlt
      have Hp := hid e1
      have HT := hid ht
      clear ht e1
      generalize xs[k] = p at *
      have f0 : wr.cell? ⟨b1, o1 + k, none⟩ = some (.int .i64 p) := hc1 k _ Hp.out
      clear hc1
      by_cases hpn : n = p
      · have hd : isN n p = true := by simp [isN, hpn]
        have Hd := hid hd
        clear hd
        go_wp2_with fail
        go_ret
        exact ⟨ret_int (idxOf_at HT.out Hp.out Hd.out).symm, hbl⟩
      · have Hd := hid (show isN n p = false by simp [isN]; omega)
        go_wp2_with fail
        exact ⟨⟨k + 1, by omega, by go_num, any_step HT.out Hp.out Hd.out, hbl⟩, by simp [intOf]; omega⟩
    · obtain rfl : k = xs.length := by omega
      have HT := hid ht
      clear ht
      go_wp2_with fail
      go_ret
      refine ⟨ret_int ?_, hbl⟩
      have := HT.out
      rw [List.take_length] at this
      exact (idxOf_none this).symm
theorem contains_en1_I (a : Option Addr) (c : Nat) (xs : List Int) (n : Int) (w : World) (h : SlA en1 1 w a xs) :
    Calls Try.prog 86 #[.slice a xs.length c, .int .i64 n] w fun e w' => e = .returned (.bool (xs.any (isN n))) ∧ Below w.heap.size w w' := by
  have Hs := hid (index_en1_I a c xs n w h)
  have Hr := hid (idxOf_ge (isN n) xs)
  generalize idxOf (isN n) xs = v at *
  go_enter Try.func86, Try.ntmps86
  go_wp2_with fail
  refine Hs.out.mono ?_
  rintro e w1 ⟨rfl, hb⟩
  go_wp2_with fail
  go_ret
  exact ⟨ret_bool Hr.out, hb⟩
end Go.Proofs.Ytgkgklgeobbmlaa
