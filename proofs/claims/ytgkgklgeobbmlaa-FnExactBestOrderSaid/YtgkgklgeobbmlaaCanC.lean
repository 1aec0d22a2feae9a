/-
  A copy of a list of cells; whether a cell can be one of a longer line, the program's (a closure).
  Conditions: the fields are in their kinds' ranges.
-/
import Derived.Test.YtgkgklgeobbmlaaLonger
import Derived.Test.YtgkgklgeobbmlaaHasC
namespace Go.Proofs.Ytgkgklgeobbmlaa
open Go.RowKit
set_option linter.unusedSimpArgs false
set_option linter.unusedVariables false

def canG (wi hi : Int) (ps : List Pc) (cells barred : List Ce) (x y : Int) : Bool := freeG wi hi ps x y && (!cells.any (isC x y) && !barred.any (isC x y))
theorem okL_can (wi hi : Int) (ps : List Pc) (cells barred : List Ce) (a b : Ce) (s : Int) : okL wi hi ps cells barred a b s = (canG wi hi ps cells barred (nx a.x s) (ny a.y s) && canG wi hi ps cells barred (nx b.x s) (ny b.y s)) := by
  unfold okL canG
  generalize freeG wi hi ps (nx a.x s) (ny a.y s) = b0
  generalize freeG wi hi ps (nx b.x s) (ny b.y s) = b1
  generalize cells.any (isC (nx a.x s) (ny a.y s)) = b2
  generalize cells.any (isC (nx b.x s) (ny b.y s)) = b3
  generalize barred.any (isC (nx a.x s) (ny a.y s)) = b4
  generalize barred.any (isC (nx b.x s) (ny b.y s)) = b5
  cases b0 <;> cases b1 <;> cases b2 <;> cases b3 <;> cases b4 <;> cases b5 <;> rfl
theorem clone_Ce_I (a : Option Addr) (c : Nat) (xs : List Ce) (w : World) (h : SlA Ce.enc 2 w a xs) (hc : a = none → c = 0) (hs : xs.length ≤ 1048576) :
    Calls Try.prog 96 #[.slice a xs.length c] w fun e w' => ∃ A c', e = .returned (.slice A xs.length c') ∧ Below w.heap.size w w' ∧ w'.ownsRow w.heap.size 36 2 (.slice A xs.length c') xs.length (xs.flatMap Ce.enc) := by
  cases a with
  | none =>
    have h0 : xs.length = 0 := by
      rcases Nat.eq_zero_or_pos xs.length with h0 | h0
      · exact h0
      · obtain ⟨_, _, e, _⟩ := h.cells h0
        cases e
    obtain rfl : xs = [] := List.eq_nil_of_length_eq_zero h0
    obtain rfl : c = 0 := hc rfl
    clear h hc h0 hs
    simp only [List.length_nil]
    have q41 : ∀ (w : World) (a : Option Addr) (n c n' c' : Nat), (binOp .eql 67 (.slice a n c) (.slice none n' c')).run Try.prog w = .ok (.bool a.isNone) w := fun w a n c n' c' => Lib.run_eql_slice_nil w _ _ a n c n' c' Try.underlying67
    go_enter Try.func96, Try.ntmps96
    go_wp2_with fail
    go_ret
    exact ⟨none, 0, rfl, Below.refl _ _, World.ownsRow_nil _ _ _ _⟩
  | some ad =>
    have q41 : ∀ (w : World) (a : Option Addr) (n c n' c' : Nat), (binOp .eql 67 (.slice a n c) (.slice none n' c')).run Try.prog w = .ok (.bool a.isNone) w := fun w a n c n' c' => Lib.run_eql_slice_nil w _ _ a n c n' c' Try.underlying67
    have H := hid (fun o => (h.below ((Below.refl _ _).alloc (Nat.le_refl _) o) : SlA Ce.enc 2 (w.alloc o) (some ad) xs).flat Ce.enc_length)
    clear h hc
    go_enter Try.func96, Try.ntmps96
    go_wp2_with (at_builtin; refine app_many rfl _ _ 67 rfl w.heap.size 36 (.agg #[.int .i8 0, .int .i8 0]) 2 2 Try.underlying67 (by kernel_rfl) rfl (by decide) _ 0 [] rfl (World.ownsRow_lit w #[] 0 (Nat.le_refl _) (by simp [maxLen]) (by simp)) (some ad) xs.length c (xs.flatMap Ce.enc) rfl ?c1 (H.out _) ?c2 ?c3 ?c4 (by decide) ?c5 ?_)
    case c1 => exact flatMap_len Ce.enc_length xs
    case c2 => exact oneCell_flat (fun p u hu => by simp [Ce.enc] at hu; rcases hu with rfl | rfl <;> rfl) xs
    case c3 => exact fun _ => .inr (by simp)
    case c4 => omega
    case c5 => simp
    intro v1 w1 own1 hg1 hat
    try simp only [Nat.zero_add, List.nil_append] at own1
    obtain ⟨A1, c1, rfl⟩ := own_slice own1
    have Ho := hid own1
    have Hg := hid hg1
    clear own1 hg1 hat q41
    go_wp2_with fail
    go_ret
    exact ⟨A1, c1, rfl, ((Below.refl _ _).alloc (Nat.le_refl _) _).grown Hg.out (by simp) (by simp [Value.ownBlock]), Ho.out⟩
set_option maxHeartbeats 800000 in
theorem canFn_I (b : Nat) (wi hi : Int) (a : Option Addr) (c : Nat) (xs : List Pc) (ac : Option Addr) (cc : Nat) (cells : List Ce) (ak : Option Addr) (ck : Nat) (kept : List Ce) (x y : Int) (q3 q4 q5 : Nat) (w : World) (hb : BdA w b wi hi a xs.length c) (h : SlA Pc.enc 5 w a xs) (h2 : SlA Ce.enc 2 w ac cells) (h3 : SlA Ce.enc 2 w ak kept)
    (l3 : q3 < w.heap.size) (l4 : q4 < w.heap.size) (l5 : q5 < w.heap.size) (c3 : w.cell? ⟨q3, 0, none⟩ = some (.pointer (some ⟨b, 0, none⟩))) (c4 : w.cell? ⟨q4, 0, none⟩ = some (.slice ac cells.length cc)) (c5 : w.cell? ⟨q5, 0, none⟩ = some (.slice ak kept.length ck)) :
    Calls Try.prog 94 #[.agg #[.int .i8 x, .int .i8 y], .pointer (some ⟨q3, 0, none⟩), .pointer (some ⟨q4, 0, none⟩), .pointer (some ⟨q5, 0, none⟩)] w fun e w' => e = .returned (.bool (canG wi hi xs cells kept x y)) ∧ Below w.heap.size w w' := by
  obtain ⟨W0, hW0⟩ : ∃ W, W = w.alloc (Obj.cells #[.int .i8 x, .int .i8 y] 36) := ⟨_, rfl⟩
  have B0 : Below w.heap.size w W0 := by rw [hW0]; exact (Below.refl _ _).alloc (Nat.le_refl _) _
  have hz0 : w.heap.size < W0.heap.size := by rw [hW0]; simp
  have m0 : W0.cell? ⟨w.heap.size, 0, none⟩ = some (.int .i8 x) := by rw [hW0]; simp
  have m1 : W0.cell? ⟨w.heap.size, 1, none⟩ = some (.int .i8 y) := by rw [hW0]; simp
  have k3 : ∀ o, (w.alloc o).cell? ⟨q3, 0, none⟩ = some (.pointer (some ⟨b, 0, none⟩)) := fun o => cell_on ((Below.refl _ _).alloc (Nat.le_refl _) o) c3
  have C1 := hid (fun W (hB : Below w.heap.size w W) => free_I b wi hi a c xs x y W (hb.below hB hb.lt) (h.below hB))
  have C2 := hid (fun W (hB : Below w.heap.size w W) => containsC_I ac cc cells x y W (h2.below hB))
  have C3 := hid (fun W (hB : Below w.heap.size w W) => containsC_I ak ck kept x y W (h3.below hB))
  obtain ⟨d1, hd1⟩ : ∃ d : Bool, freeG wi hi xs x y = d := ⟨_, rfl⟩
  obtain ⟨d2, hd2⟩ : ∃ d : Bool, cells.any (isC x y) = d := ⟨_, rfl⟩
  obtain ⟨d3, hd3⟩ : ∃ d : Bool, kept.any (isC x y) = d := ⟨_, rfl⟩
  have HG := hid (show canG wi hi xs cells kept x y = (d1 && (!d2 && !d3)) by unfold canG; rw [hd1, hd2, hd3])
  rw [hd1] at C1
  rw [hd2] at C2
  rw [hd3] at C3
  have HB := hid B0
  have p4 := cell_on B0 c4
  have p5 := cell_on B0 c5
  clear hd1 hd2 hd3
  go_enter Try.func94, Try.ntmps94
  go_wp2_with fail
  rw [← hW0]
  clear hW0 k3
  refine (C1.out _ B0).mono ?_
  rintro e w1 ⟨rfl, hb1⟩
  have B1 := below_of B0 (by omega) hb1
  have m0 := cell_on hb1 m0
  have m1 := cell_on hb1 m1
  have p4 := cell_on hb1 p4
  have p5 := cell_on hb1 p5
  cases d1
  · go_wp2_with fail
    go_ret
    exact ⟨ret_bool (by rw [HG.out]; rfl), B1⟩
  · go_wp2_with fail
    refine (C2.out _ B1).mono ?_
    rintro e w2 ⟨rfl, hb2⟩
    have hz1 := B1.size
    have B2 := below_of B1 hz1 hb2
    have m0 := cell_on hb2 m0
    have m1 := cell_on hb2 m1
    have p5 := cell_on hb2 p5
    cases d2
    · go_wp2_with fail
      refine (C3.out _ B2).mono ?_
      rintro e w3 ⟨rfl, hb3⟩
      have hz2 := B2.size
      go_wp2_with fail
      go_ret
      exact ⟨ret_bool (by rw [HG.out]; simp), below_of B2 hz2 hb3⟩
    · go_wp2_with fail
      go_ret
      exact ⟨ret_bool (by rw [HG.out]; rfl), B2⟩
end Go.Proofs.Ytgkgklgeobbmlaa
