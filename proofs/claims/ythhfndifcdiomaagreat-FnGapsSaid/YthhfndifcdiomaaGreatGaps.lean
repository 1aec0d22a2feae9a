/-
  Gaps: whether a list has a number; which gaps are right for a board; both the program's and the reference's.
  Conditions: the fields are in their kinds' ranges.
-/
import Derived.Test.YthhfndifcdiomaaGreatValidI
import Derived.Test.YthhfndifcdiomaaGreatOb
namespace Go.Proofs.YthhfndifcdiomaaGreat
open Go.RowKit
set_option linter.unusedSimpArgs false
set_option linter.unusedVariables false

theorem en1_cells {w : World} {a : Option Addr} {xs : List Int} (h : SlA en1 1 w a xs) (hp : 0 < xs.length) : ∃ b o, a = some ⟨b, o, none⟩ ∧ b < w.heap.size ∧ ∀ i p, xs[i]? = some p → w.cell? ⟨b, o + i, none⟩ = some (.int .i64 p) := by
  obtain ⟨b, o, e, hb, hc⟩ := h.cells hp
  exact ⟨b, o, e, hb, fun i p hi => by have := hc i p hi 0 _ rfl; simpa using this⟩
def isN (n x : Int) : Bool := decide (x = n)
def gapAt (m : Nat) (gs : List Int) (k : Nat) : Bool := match gs[k]? with
  | some g => inB g 0 ((m : Int) - 1) && (match k with | 0 => true | j + 1 => decide (gs.getD j 0 < g))
  | none => true
def gapsB (m : Nat) (gs : List Int) : Bool := (List.range gs.length).all (gapAt m gs)
theorem gapsB_true {m : Nat} {gs : List Int} (h : ∀ j, j < gs.length → gapAt m gs j = true) : gapsB m gs = true := by
  unfold gapsB
  simpa using h
theorem gapsB_false {m : Nat} {gs : List Int} {k : Nat} (hk : k < gs.length) (h : gapAt m gs k = false) : gapsB m gs = false := by
  unfold gapsB
  rw [List.all_eq_false]
  exact ⟨k, List.mem_range.2 hk, by simp [h]⟩
def builtG (wi hi : Int) (xs : List Pc) : Int := if bdOk wi hi xs = true then (if 40 < xs.length then 3 else 0) else 1
def gapsG (wi hi : Int) (xs : List Pc) (gs : List Int) : Int := if builtG wi hi xs ≠ 0 then builtG wi hi xs else if gapsB xs.length gs = true then 0 else 2
theorem has_S (a : Option Addr) (c : Nat) (xs : List Int) (n : Int) (w : World) (h : SlA en1 1 w a xs) :
    Calls Tryz.prog 41 #[.slice a xs.length c, .int .i64 n] w fun e w' => e = .returned (.bool (xs.any (isN n))) ∧ Below w.heap.size w w' := by
  have sa := h.small
  go_enter Tryz.func41, Tryz.ntmps41
  go_wp2_with fail
  go_loopw [5] (fun i wr => ∃ k : Nat, k ≤ xs.length ∧ i = .int .i64 k ∧ (xs.take k).any (isN n) = false ∧ Below w.heap.size w wr) (fun i _ => xs.length - (intOf i).toNat)
  case atStart => exact ⟨0, Nat.zero_le _, rfl, rfl, Below.refl _ _⟩
  case round =>
    obtain ⟨k, hk, rfl, ht, hbl⟩ := hrel
    by_cases hlt : k < xs.length
    · obtain ⟨b1, o1, rfl, hb1, hc1⟩ := en1_cells (h.below hbl) (by omega)
      have e1 : xs[k]? = some xs[k] := List.getElem?_eq_getElem hlt
      have Hp := hid e1
      have HT := hid ht
      clear ht e1
      generalize xs[k] = p at *
      have f0 : wr.cell? ⟨b1, o1 + k, none⟩ = some (.int .i64 p) := hc1 k _ Hp.out
      clear hc1
      by_cases hpn : p = n
      · have hd : isN n p = true := by simp [isN, hpn]
        have Hd := hid hd
        clear hd
        go_wp2_with fail
        go_ret
        refine ⟨ret_bool ?_, hbl⟩
        rw [eq_comm, List.any_eq_true]
        exact ⟨p, List.mem_of_getElem? Hp.out, Hd.out⟩
      · have Hd := hid (show isN n p = false by simp [isN, hpn])
        go_wp2_with fail
        exact ⟨⟨k + 1, by omega, by go_num, any_step HT.out Hp.out Hd.out, hbl⟩, by simp [intOf]; omega⟩
    · obtain rfl : k = xs.length := by omega
      have HT := hid ht
      clear ht
      go_wp2_with fail
      go_ret
      refine ⟨ret_bool ?_, hbl⟩
      have := HT.out
      rw [List.take_length] at this
      exact this.symm
theorem index_en1_I (a : Option Addr) (c : Nat) (xs : List Int) (n : Int) (w : World) (h : SlA en1 1 w a xs) :
    Calls Tryz.prog 69 #[.slice a xs.length c, .int .i64 n] w fun e w' => e = .returned (.int .i64 (idxOf (isN n) xs)) ∧ Below w.heap.size w w' := by
  have sa := h.small
  go_enter Tryz.func69, Tryz.ntmps69
  go_wp2_with fail
  go_loopw [8] (fun i wr => ∃ k : Nat, k ≤ xs.length ∧ i = .int .i64 k ∧ (xs.take k).any (isN n) = false ∧ Below w.heap.size w wr) (fun i _ => xs.length - (intOf i).toNat)
  case atStart => exact ⟨0, Nat.zero_le _, rfl, rfl, Below.refl _ _⟩
  case round =>
    obtain ⟨k, hk, rfl, ht, hbl⟩ := hrel
    by_cases hlt : k < xs.length
    · obtain ⟨b1, o1, rfl, hb1, hc1⟩ := en1_cells (h.below hbl) (by omega)
      have e1 : xs[k]? = some xs[k] := List.getElem?_eq_getElem hlt
      have Hp := hid e1
      have HT := hid ht
      clear ht e1
      generalize xs[k] = p at *
      have f0 : wr.cell? ⟨b1, o1 + k, none⟩ = some (.int .i64 p) := hc1 k _ Hp.out
      clear hc1
      by_cases hpn : n = p
      · have hd : isN n p = true := by simp [isN, hpn]
        have Hd := hid hd
        clear hd
        go_wp2_with fail
        go_ret
        exact ⟨ret_int (idxOf_at HT.out Hp.out Hd.out).symm, hbl⟩
      · have Hd := hid (show isN n p = false by simp [isN]; omega)
        go_wp2_with fail
        exact ⟨⟨k + 1, by omega, by go_num, any_step HT.out Hp.out Hd.out, hbl⟩, by simp [intOf]; omega⟩
    · obtain rfl : k = xs.length := by omega
      have HT := hid ht
      clear ht
      go_wp2_with fail
      go_ret
      refine ⟨ret_int ?_, hbl⟩
      have := HT.out
      rw [List.take_length] at this
      exact (idxOf_none this).symm
theorem contains_en1_I (a : Option Addr) (c : Nat) (xs : List Int) (n : Int) (w : World) (h : SlA en1 1 w a xs) :
    Calls Tryz.prog 38 #[.slice a xs.length c, .int .i64 n] w fun e w' => e = .returned (.bool (xs.any (isN n))) ∧ Below w.heap.size w w' := by
  have Hs := hid (index_en1_I a c xs n w h)
  have Hr := hid (idxOf_ge (isN n) xs)
  generalize idxOf (isN n) xs = v at *
  go_enter Tryz.func38, Tryz.ntmps38
  go_wp2_with fail
  refine Hs.out.mono ?_
  rintro e w1 ⟨rfl, hb⟩
  go_wp2_with fail
  go_ret
  exact ⟨ret_bool Hr.out, hb⟩
theorem asked7_S (b : Nat) (wi hi : Int) (a : Option Addr) (c : Nat) (xs : List Pc) (w : World) (rw_ : -128 ≤ wi ∧ wi ≤ 127 ∧ -128 ≤ hi ∧ hi ≤ 127) (hb : BdA w b wi hi a xs.length c) (h : SlA Pc.enc 5 w a xs) (ok : ∀ p ∈ xs, p.Ok) :
    Calls Tryz.prog 40 #[.pointer (some ⟨b, 0, none⟩)] w fun e w' => e = .returned (.int .i64 (builtG wi hi xs)) ∧ Below w.heap.size w w' := by
  have Ha := hid (ok_S b wi hi a c xs w rw_ hb h ok)
  obtain ⟨d1, hd1⟩ : ∃ d1 : Bool, bdOk wi hi xs = d1 := ⟨_, rfl⟩
  rw [hd1] at Ha
  have HG := hid (show builtG wi hi xs = if d1 = true then (if 40 < xs.length then 3 else 0) else 1 by unfold builtG; rw [hd1])
  have sa := h.small
  obtain ⟨g9, g0, g1, g2⟩ := hb
  clear hd1
  go_enter Tryz.func40, Tryz.ntmps40
  go_wp2_with fail
  refine Ha.out.mono ?_
  rintro e w1 ⟨rfl, hb1⟩
  have k2 : w1.cell? ⟨b, 2, none⟩ = some (.slice a xs.length c) := (hb1.cell (p := ⟨b, _, none⟩) g9).trans g2
  cases d1
  · go_wp2_with fail
    go_ret
    exact ⟨ret_int (by rw [HG.out]; rfl), hb1⟩
  · by_cases h40 : 40 < xs.length
    · go_wp2_with fail
      go_ret
      exact ⟨ret_int (by rw [HG.out]; simp [h40]), hb1⟩
    · go_wp2_with fail
      go_ret
      exact ⟨ret_int (by rw [HG.out]; simp [h40]), hb1⟩
theorem builtOk_I (wi hi : Int) (a : Option Addr) (c : Nat) (xs : List Pc) (w : World) (rw_ : -128 ≤ wi ∧ wi ≤ 127 ∧ -128 ≤ hi ∧ hi ≤ 127) (h : SlA Pc.enc 5 w a xs) (ok : ∀ p ∈ xs, p.Ok) :
    Calls Tryz.prog 37 #[.agg #[.int .i8 wi, .int .i8 hi, .slice a xs.length c]] w fun e w' => e = .returned (.int .i64 (builtG wi hi xs)) ∧ Below w.heap.size w w' := by
  have Ha := hid (fun W (hB : Below w.heap.size w W) => ValidBoard_I wi hi a c xs W rw_ (h.below hB) ok)
  obtain ⟨d1, hd1⟩ : ∃ d1 : Bool, bdOk wi hi xs = d1 := ⟨_, rfl⟩
  rw [hd1] at Ha
  have HG := hid (show builtG wi hi xs = if d1 = true then (if 40 < xs.length then 3 else 0) else 1 by unfold builtG; rw [hd1])
  have sa := h.small
  have B0 : ∀ o, Below w.heap.size w (w.alloc o) := fun o => (Below.refl _ _).alloc (Nat.le_refl _) _
  have HB := hid B0
  clear B0 hd1
  go_enter Tryz.func37, Tryz.ntmps37
  go_wp2_with fail
  refine (Ha.out _ (HB.out _)).mono ?_
  rintro e w1 ⟨rfl, hb1⟩
  obtain ⟨hc1, hf1⟩ := bcell hb1
  have B1 := below_of (HB.out _) (by simp) hb1
  have hz := hb1.size
  simp only [World.size_alloc] at hz
  have s1 : w.heap.size < w1.heap.size := by omega
  cases d1
  · go_wp2_with fail
    go_ret
    exact ⟨ret_int (by rw [HG.out]; rfl), B1⟩
  · by_cases h40 : 40 < xs.length
    · go_wp2_with fail
      go_ret
      exact ⟨ret_int (by rw [HG.out]; simp [h40]), B1⟩
    · go_wp2_with fail
      go_ret
      exact ⟨ret_int (by rw [HG.out]; simp [h40]), B1⟩
theorem indexOk_I (b : Nat) (wi hi : Int) (a : Option Addr) (n c : Nat) (i : Int) (w : World) (hn : n ≤ 9223372036854775807) (hb : BdA w b wi hi a n c) :
    Calls Tryz.prog 73 #[.pointer (some ⟨b, 0, none⟩), .int .i64 i] w fun e w' => e = .returned (.bool (inB i 0 ((n : Int) - 1))) ∧ w = w' := by
  obtain ⟨g9, g0, g1, g2⟩ := hb
  go_enter Tryz.func73, Tryz.ntmps73
  go_wp2_with (go_at_call 48; refine (in_I _ _ _ _).mono ?_; rintro e w' ⟨rfl, rfl⟩)
  go_ret
  exact ⟨rfl, rfl⟩
end Go.Proofs.YthhfndifcdiomaaGreat
