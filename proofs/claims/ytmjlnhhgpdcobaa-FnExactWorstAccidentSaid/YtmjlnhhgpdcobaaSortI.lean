/-
  Hits in order: the comparison of two hits, and the library's sort at a row of hits.
  Conditions: the row is short.
-/
import Derived.Test.YtmjlnhhgpdcobaaQueI
import Derived.Deep.RegionHeld3
import Derived.Sort.Grow
namespace Go.Proofs.Ytmjlnhhgpdcobaa
open Go.RowKit
set_option linter.unusedSimpArgs false
set_option linter.unusedVariables false

def orI : List Int → Int
  | [] => 0
  | x :: r => if x = 0 then orI r else x
def cmpI (x y : Int) : Int := if x < y then -1 else if y < x then 1 else 0
def hitC (p q : Q4) : Int := orI [cmpI p.a q.a, cmpI p.b q.b, cmpI p.c q.c, cmpI p.d q.d]
theorem isNaN_I (x : Int) (w : World) : Calls Try.prog 73 #[.int .i64 x] w fun e w' => e = .returned (.bool false) ∧ w = w' := by
  go_enter Try.func73, Try.ntmps73
  go_wp2_with fail
  go_ret
  exact ⟨rfl, rfl⟩
theorem compare_I (x y : Int) (w : World) : Calls Try.prog 70 #[.int .i64 x, .int .i64 y] w fun e w' => e = .returned (.int .i64 (cmpI x y)) ∧ w = w' := by
  have HN := hid (fun z W => isNaN_I z W)
  have HG := hid (show cmpI x y = if x < y then -1 else if y < x then 1 else 0 from rfl)
  by_cases h1 : x < y
  · have e1 : decide (x < y) = true := decide_eq_true h1
    rw [if_pos h1] at HG
    go_enter Try.func70, Try.ntmps70
    go_wp2_with (go_at_call 73; refine (HN.out _ _).mono ?_; rintro e w' ⟨rfl, rfl⟩)
    go_ret
    exact ⟨ret_int HG.out.symm, rfl⟩
  · have e1 : decide (x < y) = false := decide_eq_false h1
    rw [if_neg h1] at HG
    by_cases h2 : y < x
    · have e2 : decide (x > y) = true := decide_eq_true h2
      rw [if_pos h2] at HG
      go_enter Try.func70, Try.ntmps70
      go_wp2_with (go_at_call 73; refine (HN.out _ _).mono ?_; rintro e w' ⟨rfl, rfl⟩)
      go_ret
      exact ⟨ret_int HG.out.symm, rfl⟩
    · have e2 : decide (x > y) = false := decide_eq_false h2
      rw [if_neg h2] at HG
      go_enter Try.func70, Try.ntmps70
      go_wp2_with (go_at_call 73; refine (HN.out _ _).mono ?_; rintro e w' ⟨rfl, rfl⟩)
      go_ret
      exact ⟨ret_int HG.out.symm, rfl⟩
theorem or_I (g c : Nat) (l : List Int) (w : World) (hl : l.length ≤ 100) (hc : ∀ j x, l[j]? = some x → w.cell? ⟨g, j, none⟩ = some (.int .i64 x)) :
    Calls Try.prog 69 #[.slice (some ⟨g, 0, none⟩) l.length c] w fun e w' => e = .returned (.int .i64 (orI l)) ∧ w = w' := by
  have HC := hid hc
  clear hc
  go_enter Try.func69, Try.ntmps69
  go_wp2_with fail
  go_loopw [8] (fun iv wr => ∃ k : Nat, k ≤ l.length ∧ iv = .int .i64 k ∧ orI l = orI (l.drop k) ∧ wr = w) (fun iv _ => l.length - (intOf iv).toNat)
  case atStart => exact ⟨0, Nat.zero_le _, rfl, rfl, rfl⟩
  case round =>
    obtain ⟨k, hk, rfl, ho, rfl⟩ := hrel
    by_cases hlt : k < l.length
    · have hd : decide ((k : Int) < (l.length : Int)) = true := by rw [decide_eq_true_iff]; omega
      have hki : (k : Int) < (l.length : Int) := by omega
      have e1 : l[k]? = some l[k] := List.getElem?_eq_getElem hlt
      have c0 := HC.out k _ e1
      have hdr : l.drop k = l[k] :: l.drop (k + 1) := List.drop_eq_getElem_cons hlt
      rw [hdr] at ho
      generalize l[k] = x at *
      have HO := hid ho
      clear ho hdr e1
      by_cases hx : x = 0
      · have e2 : (x == 0) = true := by simp [hx]
        have HN := hid (HO.out.trans (show orI (x :: l.drop (k + 1)) = orI (l.drop (k + 1)) by rw [orI, if_pos hx]))
        clear hx
        go_wp2_with fail
        exact ⟨⟨k + 1, by omega, by go_num, HN.out, trivial⟩, by simp [intOf]; omega⟩
      · have e2 : (x == 0) = false := by simp [hx]
        have HN := hid (HO.out.trans (show orI (x :: l.drop (k + 1)) = x by rw [orI, if_neg hx]))
        go_wp2_with fail
        go_ret
        exact ⟨ret_int HN.out.symm, rfl⟩
    · obtain rfl : k = l.length := by omega
      have hd : decide ((l.length : Int) < (l.length : Int)) = false := by rw [decide_eq_false_iff_not]; omega
      have HN := hid (show orI l = 0 by rw [ho, List.drop_length]; rfl)
      clear ho
      go_wp2_with fail
      go_ret
      exact ⟨ret_int HN.out.symm, rfl⟩
set_option maxHeartbeats 1000000 in
theorem hitOrder_I (p q : Q4) (w : World) : Calls Try.prog 59 #[.agg #[.int .i64 p.a, .int .i64 p.b, .int .i64 p.c, .int .i64 p.d], .agg #[.int .i64 q.a, .int .i64 q.b, .int .i64 q.c, .int .i64 q.d]] w fun e w' => e = .returned (.int .i64 (hitC p q)) ∧ ∃ n os', w' = Go.Sort.grow (w.drewN n) os' := by
  have HC := hid (fun x y W => compare_I x y W)
  go_enter Try.func59, Try.ntmps59
  go_upto_region 1 with fail
  obtain ⟨W1, hW1⟩ : ∃ W, W = (w.alloc (.cells #[.int .i64 p.a, .int .i64 p.b, .int .i64 p.c, .int .i64 p.d] 104)).alloc (.cells #[.int .i64 q.a, .int .i64 q.b, .int .i64 q.c, .int .i64 q.d] 104) := ⟨_, rfl⟩
  rw [← hW1]
  have h0 : (fun W : World => W.cell? ⟨w.heap.size, 0, none⟩ = some (.int .i64 p.a) ∧ W.cell? ⟨w.heap.size, 1, none⟩ = some (.int .i64 p.b) ∧ W.cell? ⟨w.heap.size, 2, none⟩ = some (.int .i64 p.c) ∧ W.cell? ⟨w.heap.size, 3, none⟩ = some (.int .i64 p.d) ∧ W.cell? ⟨w.heap.size + 1, 0, none⟩ = some (.int .i64 q.a) ∧ W.cell? ⟨w.heap.size + 1, 1, none⟩ = some (.int .i64 q.b) ∧ W.cell? ⟨w.heap.size + 1, 2, none⟩ = some (.int .i64 q.c) ∧ W.cell? ⟨w.heap.size + 1, 3, none⟩ = some (.int .i64 q.d)) W1.drew := by rw [hW1]; simp [go_sem]
  have h9 : ∀ o, (fun W : World => W.cell? ⟨w.heap.size, 0, none⟩ = some (.int .i64 p.a) ∧ W.cell? ⟨w.heap.size, 1, none⟩ = some (.int .i64 p.b) ∧ W.cell? ⟨w.heap.size, 2, none⟩ = some (.int .i64 p.c) ∧ W.cell? ⟨w.heap.size, 3, none⟩ = some (.int .i64 p.d) ∧ W.cell? ⟨w.heap.size + 1, 0, none⟩ = some (.int .i64 q.a) ∧ W.cell? ⟨w.heap.size + 1, 1, none⟩ = some (.int .i64 q.b) ∧ W.cell? ⟨w.heap.size + 1, 2, none⟩ = some (.int .i64 q.c) ∧ W.cell? ⟨w.heap.size + 1, 3, none⟩ = some (.int .i64 q.d)) ((W1.alloc o).drew) := fun o => by rw [hW1]; simp [go_sem]
  have HOr := hid (fun X : World => or_I X.heap.size 4 [cmpI p.a q.a, cmpI p.b q.b, cmpI p.c q.c, cmpI p.d q.d] ((X.alloc (.cells #[.int .i64 (cmpI p.a q.a), .int .i64 (cmpI p.b q.b), .int .i64 (cmpI p.c q.c), .int .i64 (cmpI p.d q.d)] 3)).drew) (by simp) (fun j x hx => by
    have hj : j < 4 := (List.getElem?_eq_some_iff.1 hx).1
    have : j = 0 ∨ j = 1 ∨ j = 2 ∨ j = 3 := by omega
    rcases this with rfl | rfl | rfl | rfl <;> (cases hx; simp [go_sem])))
  have HW1 := hid hW1
  clear hW1
  go_region_held3 (fun W => W.cell? ⟨w.heap.size, 0, none⟩ = some (.int .i64 p.a) ∧ W.cell? ⟨w.heap.size, 1, none⟩ = some (.int .i64 p.b) ∧ W.cell? ⟨w.heap.size, 2, none⟩ = some (.int .i64 p.c) ∧ W.cell? ⟨w.heap.size, 3, none⟩ = some (.int .i64 p.d) ∧ W.cell? ⟨w.heap.size + 1, 0, none⟩ = some (.int .i64 q.a) ∧ W.cell? ⟨w.heap.size + 1, 1, none⟩ = some (.int .i64 q.b) ∧ W.cell? ⟨w.heap.size + 1, 2, none⟩ = some (.int .i64 q.c) ∧ W.cell? ⟨w.heap.size + 1, 3, none⟩ = some (.int .i64 q.d))
    (first | exact h0 | with_reducible assumption | exact h9 _)
    (first | (go_at_call 70; refine (HC.out _ _ _).mono ?_; rintro e w' ⟨rfl, rfl⟩) | (go_at_call 69; refine (HOr.out _).mono ?_; rintro e w' ⟨rfl, rfl⟩))
  go_wp2_with fail
  go_ret
  refine ⟨rfl, 1, #[.cells #[.int .i64 p.a, .int .i64 p.b, .int .i64 p.c, .int .i64 p.d] 104, .cells #[.int .i64 q.a, .int .i64 q.b, .int .i64 q.c, .int .i64 q.d] 104, .cells #[.int .i64 (cmpI p.a q.a), .int .i64 (cmpI p.b q.b), .int .i64 (cmpI p.c q.c), .int .i64 (cmpI p.d q.d)] 3 ], ?_⟩
  rw [HW1.out, Go.Sort.alloc_eq_grow, Go.Sort.alloc_eq_grow, Go.Sort.alloc_eq_grow, Go.Sort.grow_grow, Go.Sort.grow_grow]
  rfl
end Go.Proofs.Ytmjlnhhgpdcobaa
