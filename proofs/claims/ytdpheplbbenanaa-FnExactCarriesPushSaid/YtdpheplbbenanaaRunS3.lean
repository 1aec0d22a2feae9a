/-
  The reference's accidents: how a board falls at one push, how many fall, what a piece costs, what a board costs.
  Conditions: the board is right, of 200 pieces at most.
-/
import Derived.Test.YtdpheplbbenanaaRunS2
namespace Go.Proofs.Ytdpheplbbenanaa
open Go.RowKit
set_option linter.unusedSimpArgs false
set_option linter.unusedVariables false

theorem sl_push (w : World) (x y s t : Int) (ty : TypeId) : SlA Pu.enc 4 (w.alloc (.cells #[.int .i8 x, .int .i8 y, .int .i8 s, .int .i16 t] ty)) (some ⟨w.heap.size, 0, none⟩) [⟨x, y, s, t⟩] := by
  refine ⟨by simp, fun _ => ⟨w.heap.size, 0, rfl, by simp, fun i p hi j u hu => ?_⟩⟩
  have hi0 : i = 0 := by
    rcases i with _ | i
    · rfl
    · simp at hi
  subst hi0
  simp only [List.getElem?_cons_zero, Option.some.injEq] at hi
  subst hi
  have hj : j < 4 := (List.getElem?_eq_some_iff.1 hu).1
  have : j = 0 ∨ j = 1 ∨ j = 2 ∨ j = 3 := by omega
  rcases this with rfl | rfl | rfl | rfl
  all_goals (
    simp only [Pu.enc, List.getElem?_cons_zero, List.getElem?_cons_succ, Option.some.injEq] at hu
    subst hu
    simp [go_sem])
set_option maxHeartbeats 1000000 in
theorem from_S (b : Nat) (wi hi : Int) (a : Option Addr) (c : Nat) (xs : List Pc) (i s : Nat) (w : World) (hB : BrdOk xs) (hn : xs.length ≤ 200) (hb : BdA w b wi hi a xs.length c) (hx : SlA Pc.enc 5 w a xs) (hi0 : i < xs.length) (hs : s < 4) :
    Calls Try.prog 14 #[.pointer (some ⟨b, 0, none⟩), .int .i64 i, .int .i64 s] w fun e w' => ∃ g, e = .returned (.slice (some ⟨g, 0, none⟩) xs.length xs.length) ∧ Below w.heap.size w w' ∧ w.heap.size ≤ g ∧ FaA w' g xs.length (Fal (boOf xs) (one1 i s)) := by
  obtain ⟨b1, o1, ha, hb1, hc1⟩ := hx.cells (by omega)
  have e1 : xs[i]? = some xs[i] := List.getElem?_eq_getElem hi0
  obtain ⟨q, hq⟩ : ∃ q, xs[i] = q := ⟨_, rfl⟩
  rw [hq] at e1
  have f0 : w.cell? ⟨b1, o1 + i * 5, none⟩ = some (.int .i8 q.x) := hc1 i _ e1 0 _ rfl
  have f1 : w.cell? ⟨b1, o1 + i * 5 + 1, none⟩ = some (.int .i8 q.y) := hc1 i _ e1 1 _ rfl
  have k2 := hb.c2
  have hii : (i : Int) < (xs.length : Int) := by omega
  have ws : IntKind.i8.wrap (s : Int) = s := IntWalk.i8_in _ (by omega)
  have HRun := hid (fun W (hB2 : Below w.heap.size w W) cl h => run_S b wi hi a c xs (some ⟨w.heap.size, 0, none⟩) cl i s q W hB hn (hb.below hB2 hb.lt) (hx.below hB2) e1 hs h)
  obtain ⟨W1, hW1⟩ : ∃ W, W = w.alloc (.cells #[.int .i8 q.x, .int .i8 q.y, .int .i8 (s : Int), .int .i16 0] 81) := ⟨_, rfl⟩
  have HP := hid (show SlA Pu.enc 4 W1 (some ⟨w.heap.size, 0, none⟩) [⟨q.x, q.y, (s : Int), 0⟩] by rw [hW1]; exact sl_push _ _ _ _ _ _)
  have HB1 := hid (show Below w.heap.size w W1 by rw [hW1]; exact (Below.refl _ _).alloc (Nat.le_refl _) _)
  rw [ha] at k2
  clear hb hx hc1 hq e1
  go_enter Try.func14, Try.ntmps14
  go_wp2_with fail
  rw [← hW1]
  clear hW1
  refine (HRun.out _ HB1.out 1 HP.out).mono ?_
  rintro e w1 ⟨g, rfl, hb2, hg, hF⟩
  have HF := hid hF
  have HB2 := hid (below_of HB1.out HB1.out.size hb2)
  have hgg := Nat.le_trans HB1.out.size hg
  clear hF hb2 hg
  go_wp2_with fail
  refine bodyPost_ret (v := .slice (some ⟨g, 0, none⟩) xs.length xs.length) (by simp [results, Try.results14, go_sem]) rfl ?_
  exact ⟨g, rfl, HB2.out, hgg, HF.out⟩
end Go.Proofs.Ytdpheplbbenanaa
