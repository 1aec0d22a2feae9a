/-
  What the worst accident costs with gaps, both the program's and the reference's.
  Conditions: the board is right, of 60 pieces at most.
-/
import Derived.Test.YtebefcfalnkdmaaGreatWithoutI
import Derived.Test.YtebefcfalnkdmaaGreatAccS
import Derived.Test.YtebefcfalnkdmaaGreatBoF
namespace Go.Proofs.YtebefcfalnkdmaaGreat
open Go.RowKit
set_option linter.unusedSimpArgs false
set_option linter.unusedVariables false

theorem keep_sub (gs : List Int) : ∀ (xs : List Pc) (i : Nat), (keepL gs i xs).Sublist xs
  | [], _ => List.Sublist.refl _
  | p :: l, i => by
    unfold keepL
    split
    · exact (keep_sub gs l (i + 1)).cons p
    · exact (keep_sub gs l (i + 1)).cons_cons p
/-- The worst accident with gaps. -/
def leftG (xs : List Pc) (gs : List Int) : Int := costW (keepL gs 0 xs)
theorem costW_in (xs : List Pc) : 0 ≤ costW xs ∧ costW xs ≤ xs.length := by
  have := pieceW_in xs xs.length
  unfold costW worstG
  omega
theorem leftG_in (xs : List Pc) (gs : List Int) : 0 ≤ leftG xs gs ∧ leftG xs gs ≤ xs.length := by
  have h1 := costW_in (keepL gs 0 xs)
  have h2 := (keep_sub gs xs 0).length_le
  unfold leftG
  omega
theorem bd_box (w : World) (wi hi : Int) (A : Option Addr) (n c : Nat) (t : TypeId) : BdA (w.alloc (.cells #[.int .i8 wi, .int .i8 hi, .slice A n c] t)) w.heap.size wi hi A n c := ⟨by simp, by simp [go_sem], by simp [go_sem], by simp [go_sem]⟩
theorem left_S (b : Nat) (wi hi : Int) (a : Option Addr) (c : Nat) (xs : List Pc) (a2 : Option Addr) (c2 : Nat) (gs : List Int) (w : World) (hB : BrdOk xs) (hn : xs.length ≤ 60) (hb : BdA w b wi hi a xs.length c) (h : SlA Pc.enc 5 w a xs) (h2 : SlA en1 1 w a2 gs) :
    Calls Tryz.prog 67 #[.pointer (some ⟨b, 0, none⟩), .slice a2 gs.length c2] w fun e w' => e = .returned (.int .i64 (leftG xs gs)) ∧ Below w.heap.size w w' := by
  have HW := hid (without_S b wi hi a c xs a2 c2 gs w (by omega) hb h h2)
  have hk := (keep_sub gs xs 0).length_le
  have HK := hid (hB.part (keep_sub gs xs 0))
  have HG := hid (show leftG xs gs = costW (keepL gs 0 xs) from rfl)
  generalize keepL gs 0 xs = ys at *
  clear hb h h2 hB
  go_enter Tryz.func67, Tryz.ntmps67
  go_wp2_with fail
  refine HW.out.mono ?_
  rintro e w2 ⟨A, cA, rfl, hb2, own⟩
  obtain ⟨W3, hW3⟩ : ∃ W, W = w2.alloc (.cells #[.int .i8 wi, .int .i8 hi, .slice A ys.length cA] 32) := ⟨_, rfl⟩
  have b3 : Below w2.heap.size w2 W3 := by rw [hW3]; exact (Below.refl _ _).alloc (Nat.le_refl _) _
  have HC := hid (worst_S w2.heap.size wi hi A cA ys W3 HK.out (by omega) (by rw [hW3]; exact bd_box _ _ _ _ _ _ _) ((SlA.of_own Pc.enc_length own).below b3))
  have B3 := hid (below_then hb2 b3)
  clear own hb2 b3
  go_wp2_with fail
  rw [← hW3]
  clear hW3
  refine HC.out.mono ?_
  rintro e w4 ⟨rfl, hb4⟩
  have B4 := hid (below_then B3.out hb4)
  clear hb4
  go_wp2_with fail
  go_ret
  exact ⟨ret_int HG.out.symm, B4.out⟩
end Go.Proofs.YtebefcfalnkdmaaGreat
