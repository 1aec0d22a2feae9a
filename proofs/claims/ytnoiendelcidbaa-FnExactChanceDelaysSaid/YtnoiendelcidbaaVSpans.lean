/-
  ValidSpans, both the program's and the reference's.
  Conditions: the fields are in their kinds' ranges.
-/
import Derived.Test.YtnoiendelcidbaaValidI
import Derived.Test.YtnoiendelcidbaaSpans
namespace Go.Proofs.Ytnoiendelcidbaa
open Go.RowKit
set_option linter.unusedSimpArgs false
set_option linter.unusedVariables false

def ValidSpansG (wi hi : Int) (xs : List Pc) (ys : List Sp) : Bool := bdOk wi hi xs && (((ys.length : Int) == (xs.length : Int)) && ys.all spOk)
theorem any_bad (ys : List Sp) : (ys.any fun p => !spOk p) = !ys.all spOk := by
  induction ys with
  | nil => rfl
  | cons y l ih => rw [List.any_cons, List.all_cons, ih]; cases spOk y <;> simp
theorem l06Ok_S (b : Nat) (wi hi : Int) (a : Option Addr) (c : Nat) (xs : List Pc) (a2 : Option Addr) (c2 : Nat) (ys : List Sp) (w : World) (rw_ : -128 ≤ wi ∧ wi ≤ 127 ∧ -128 ≤ hi ∧ hi ≤ 127) (hb : BdA w b wi hi a xs.length c) (h : SlA Pc.enc 5 w a xs) (ok : ∀ p ∈ xs, p.Ok) (h2 : SlA Sp.enc 2 w a2 ys) (ok2 : ∀ p ∈ ys, p.Ok) :
    Calls Try.prog 71 #[.pointer (some ⟨b, 0, none⟩), .slice a2 ys.length c2] w fun e w' => e = .returned (.bool (ValidSpansG wi hi xs ys)) ∧ Below w.heap.size w w' := by
  have Ha := hid (ok_S b wi hi a c xs w rw_ hb h ok)
  have Hb := hid (fun W (hb : Below w.heap.size w W) => spans_S a2 c2 ys W (h2.below hb) ok2)
  obtain ⟨d1, hd1⟩ : ∃ d1 : Bool, bdOk wi hi xs = d1 := ⟨_, rfl⟩
  obtain ⟨d2, hd2⟩ : ∃ d2 : Bool, ((ys.length : Int) == (xs.length : Int)) = d2 := ⟨_, rfl⟩
  obtain ⟨d3, hd3⟩ : ∃ d3 : Bool, ys.all spOk = d3 := ⟨_, rfl⟩
  rw [hd1] at Ha
  rw [hd3] at Hb
  have HG := hid (show ValidSpansG wi hi xs ys = (d1 && (d2 && d3)) by unfold ValidSpansG; rw [hd1, hd2, hd3])
  have sa := h.small
  have sb := h2.small
  have hbd := hb
  obtain ⟨g9, g0, g1, g2⟩ := hb
  clear hd1 hd3
  go_enter Try.func71, Try.ntmps71
  go_wp2_with fail
  refine Ha.out.mono ?_
  rintro e w1 ⟨rfl, hb1⟩
  have k2 : w1.cell? ⟨b, 2, none⟩ = some (.slice a xs.length c) := (hb1.cell (p := ⟨b, _, none⟩) g9).trans g2
  cases d1
  · go_wp2_with fail
    go_ret
    exact ⟨ret_bool (by rw [HG.out]; rfl), hb1⟩
  · cases d2
    · go_wp2_with fail
      go_ret
      exact ⟨ret_bool (by rw [HG.out]; rfl), hb1⟩
    · go_wp2_with fail
      refine (Hb.out _ hb1).mono ?_
      rintro e w2 ⟨rfl, hb2⟩
      go_wp2_with fail
      go_ret
      exact ⟨ret_bool (by rw [HG.out]; simp), below_then hb1 hb2⟩
theorem ValidSpans_S (w : World) (wi hi : Int) (wl : -128 ≤ wi) (wu : wi ≤ 127) (hl : -128 ≤ hi) (hu : hi ≤ 127) (a : Option Addr) (c : Nat) (xs : List Pc) (h : SlA Pc.enc 5 w a xs) (_ : a = none → c = 0) (ok : ∀ p ∈ xs, p.Ok) (_ : xs.length ≤ 1048576) (a2 : Option Addr) (c2 : Nat) (ys : List Sp) (h2 : SlA Sp.enc 2 w a2 ys) (_ : a2 = none → c2 = 0) (ok2 : ∀ p ∈ ys, p.Ok) (_ : ys.length ≤ 1048576) :
    Calls Try.prog 34 #[.agg #[.int .i8 wi, .int .i8 hi, .slice a xs.length c], .slice a2 ys.length c2] w fun e w' => e = .returned (.bool (ValidSpansG wi hi xs ys)) ∧ Below w.heap.size w w' := by
  have B0 : ∀ o, Below w.heap.size w (w.alloc o) := fun o => (Below.refl _ _).alloc (Nat.le_refl _) _
  have Hs := hid (fun W hb (hB : Below w.heap.size w W) => l06Ok_S w.heap.size wi hi a c xs a2 c2 ys W ⟨wl, wu, hl, hu⟩ hb (h.below hB) ok (h2.below hB) ok2)
  generalize ValidSpansG wi hi xs ys = r at *
  have HB := hid B0
  clear B0
  go_enter Try.func34, Try.ntmps34
  go_wp2_with fail
  refine (Hs.out _ ⟨by simp, by simp [go_sem], by simp [go_sem], by simp [go_sem]⟩ (HB.out _)).mono ?_
  rintro e w1 ⟨rfl, hb1⟩
  go_wp2_with fail
  go_ret
  exact ⟨rfl, below_of (HB.out _) (by simp) hb1⟩
theorem ValidSpans_I (w : World) (wi hi : Int) (wl : -128 ≤ wi) (wu : wi ≤ 127) (hl : -128 ≤ hi) (hu : hi ≤ 127) (a : Option Addr) (c : Nat) (xs : List Pc) (h : SlA Pc.enc 5 w a xs) (_ : a = none → c = 0) (ok : ∀ p ∈ xs, p.Ok) (_ : xs.length ≤ 1048576) (a2 : Option Addr) (c2 : Nat) (ys : List Sp) (h2 : SlA Sp.enc 2 w a2 ys) (_ : a2 = none → c2 = 0) (ok2 : ∀ p ∈ ys, p.Ok) (_ : ys.length ≤ 1048576) :
    Calls Try.prog 36 #[.agg #[.int .i8 wi, .int .i8 hi, .slice a xs.length c], .slice a2 ys.length c2] w fun e w' => e = .returned (.bool (ValidSpansG wi hi xs ys)) ∧ Below w.heap.size w w' := by
  have Ha := hid (fun W (hB : Below w.heap.size w W) => ValidBoard_I wi hi a c xs W ⟨wl, wu, hl, hu⟩ (h.below hB) ok)
  have Hb := hid (fun W (hB : Below w.heap.size w W) => has_badSpan a2 c2 ys W (h2.below hB) ok2)
  rw [any_bad] at Hb
  obtain ⟨d1, hd1⟩ : ∃ d1 : Bool, bdOk wi hi xs = d1 := ⟨_, rfl⟩
  obtain ⟨d2, hd2⟩ : ∃ d2 : Bool, ((ys.length : Int) == (xs.length : Int)) = d2 := ⟨_, rfl⟩
  obtain ⟨d3, hd3⟩ : ∃ d3 : Bool, ys.all spOk = d3 := ⟨_, rfl⟩
  rw [hd1] at Ha
  rw [hd3] at Hb
  have HG := hid (show ValidSpansG wi hi xs ys = (d1 && (d2 && d3)) by unfold ValidSpansG; rw [hd1, hd2, hd3])
  have sa := h.small
  have sb := h2.small
  have B0 : ∀ o, Below w.heap.size w (w.alloc o) := fun o => (Below.refl _ _).alloc (Nat.le_refl _) _
  have HB := hid B0
  clear B0 hd1 hd3
  go_enter Try.func36, Try.ntmps36
  go_wp2_with fail
  refine (Ha.out _ (HB.out _)).mono ?_
  rintro e w1 ⟨rfl, hb1⟩
  obtain ⟨hc1, hf1⟩ := bcell hb1
  have B1 := below_of (HB.out _) (by simp) hb1
  have hz := hb1.size
  simp only [World.size_alloc] at hz
  have s1 : w.heap.size < w1.heap.size := by omega
  cases d1
  · go_wp2_with fail
    go_ret
    exact ⟨ret_bool (by rw [HG.out]; rfl), B1⟩
  · cases d2
    · go_wp2_with fail
      go_ret
      exact ⟨ret_bool (by rw [HG.out]; rfl), B1⟩
    · go_wp2_with fail
      refine (Hb.out _ B1).mono ?_
      rintro e w2 ⟨rfl, hb2⟩
      go_wp2_with fail
      go_ret
      exact ⟨ret_bool (by rw [HG.out]; simp), below_then B1 hb2⟩
end Go.Proofs.Ytnoiendelcidbaa
