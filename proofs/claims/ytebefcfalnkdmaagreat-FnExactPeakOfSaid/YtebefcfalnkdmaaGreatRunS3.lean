/-
  The reference's accidents: how a board falls at one push, how many fall, what a piece costs, what a board costs.
  Conditions: the board is right, of 60 pieces at most.
-/
import Derived.Test.YtebefcfalnkdmaaGreatRunS2
namespace Go.Proofs.YtebefcfalnkdmaaGreat
open Go.RowKit
set_option linter.unusedSimpArgs false
set_option linter.unusedVariables false

theorem sl_push (w : World) (x y s t : Int) (ty : TypeId) : SlA Pu.enc 4 (w.alloc (.cells #[.int .i8 x, .int .i8 y, .int .i8 s, .int .i16 t] ty)) (some ⟨w.heap.size, 0, none⟩) [⟨x, y, s, t⟩] := by
  refine ⟨by simp, fun _ => ⟨w.heap.size, 0, rfl, by simp, fun i p hi j u hu => ?_⟩⟩
  have hi0 : i = 0 := by
    rcases i with _ | i
    · rfl
    · simp at hi
  subst hi0
  simp only [List.getElem?_cons_zero, Option.some.injEq] at hi
  subst hi
  have hj : j < 4 := (List.getElem?_eq_some_iff.1 hu).1
  have : j = 0 ∨ j = 1 ∨ j = 2 ∨ j = 3 := by omega
  rcases this with rfl | rfl | rfl | rfl
  all_goals (
    simp only [Pu.enc, List.getElem?_cons_zero, List.getElem?_cons_succ, Option.some.injEq] at hu
    subst hu
    simp [go_sem])
set_option maxHeartbeats 1000000 in
theorem from_S (b : Nat) (wi hi : Int) (a : Option Addr) (c : Nat) (xs : List Pc) (i s : Nat) (w : World) (hB : BrdOk xs) (hn : xs.length ≤ 60) (hb : BdA w b wi hi a xs.length c) (hx : SlA Pc.enc 5 w a xs) (hi0 : i < xs.length) (hs : s < 4) :
    Calls Tryz.prog 97 #[.pointer (some ⟨b, 0, none⟩), .int .i64 i, .int .i64 s] w fun e w' => ∃ g, e = .returned (.slice (some ⟨g, 0, none⟩) xs.length xs.length) ∧ Below w.heap.size w w' ∧ w.heap.size ≤ g ∧ FaA w' g xs.length (Fal (boOf xs) (one1 i s)) := by
  obtain ⟨b1, o1, ha, hb1, hc1⟩ := hx.cells (by omega)
  have e1 : xs[i]? = some xs[i] := List.getElem?_eq_getElem hi0
  obtain ⟨q, hq⟩ : ∃ q, xs[i] = q := ⟨_, rfl⟩
  rw [hq] at e1
  have f0 : w.cell? ⟨b1, o1 + i * 5, none⟩ = some (.int .i8 q.x) := hc1 i _ e1 0 _ rfl
  have f1 : w.cell? ⟨b1, o1 + i * 5 + 1, none⟩ = some (.int .i8 q.y) := hc1 i _ e1 1 _ rfl
  have k2 := hb.c2
  have hii : (i : Int) < (xs.length : Int) := by omega
  have ws : IntKind.i8.wrap (s : Int) = s := IntWalk.i8_in _ (by omega)
  have HRun := hid (fun W (hB2 : Below w.heap.size w W) cl h => run_S b wi hi a c xs (some ⟨w.heap.size, 0, none⟩) cl i s q W hB hn (hb.below hB2 hb.lt) (hx.below hB2) e1 hs h)
  obtain ⟨W1, hW1⟩ : ∃ W, W = w.alloc (.cells #[.int .i8 q.x, .int .i8 q.y, .int .i8 (s : Int), .int .i16 0] 168) := ⟨_, rfl⟩
  have HP := hid (show SlA Pu.enc 4 W1 (some ⟨w.heap.size, 0, none⟩) [⟨q.x, q.y, (s : Int), 0⟩] by rw [hW1]; exact sl_push _ _ _ _ _ _)
  have HB1 := hid (show Below w.heap.size w W1 by rw [hW1]; exact (Below.refl _ _).alloc (Nat.le_refl _) _)
  rw [ha] at k2
  clear hb hx hc1 hq e1
  go_enter Tryz.func97, Tryz.ntmps97
  go_wp2_with fail
  rw [← hW1]
  clear hW1
  refine (HRun.out _ HB1.out 1 HP.out).mono ?_
  rintro e w1 ⟨g, rfl, hb2, hg, hF⟩
  have HF := hid hF
  have HB2 := hid (below_of HB1.out HB1.out.size hb2)
  have hgg := Nat.le_trans HB1.out.size hg
  clear hF hb2 hg
  go_wp2_with fail
  refine bodyPost_ret (v := .slice (some ⟨g, 0, none⟩) xs.length xs.length) (by simp [results, Tryz.results97, go_sem]) rfl ?_
  exact ⟨g, rfl, HB2.out, hgg, HF.out⟩
theorem count_S (g n c : Nat) (E : Nat → Nat) (w : World) (hn : n ≤ 60) (h : FaA w g n E) :
    Calls Tryz.prog 100 #[.slice (some ⟨g, 0, none⟩) n c] w fun e w' => e = .returned (.int .i64 (cntF E n : Nat)) ∧ w = w' := by
  have HF := hid h
  clear h
  go_enter Tryz.func100, Tryz.ntmps100
  go_wp2_with fail
  go_loopw [3, 4] (fun cv iv wr => ∃ k : Nat, k ≤ n ∧ iv = .int .i64 k ∧ cv = .int .i64 (cntF E k : Nat) ∧ wr = w) (fun _ iv _ => n - (intOf iv).toNat)
  case atStart => exact ⟨0, Nat.zero_le _, rfl, rfl, rfl⟩
  case round =>
    obtain ⟨k, hk, rfl, rfl, rfl⟩ := hrel
    by_cases hlt : k < n
    · have hd : decide ((k : Int) < (n : Int)) = true := by rw [decide_eq_true_iff]; omega
      have hki : (k : Int) < (n : Int) := by omega
      have c0 := HF.out.c0 k hlt
      have hck := cntF_le E k
      by_cases hE : E k < big
      · rw [keyT_lt hE] at c0
        have HN := hid (show cntF E (k + 1) = cntF E k + 1 by rw [cntF, if_pos hE])
        generalize E k / 4 = tk at *
        have e1 : decide ((tk : Int) ≥ 0) = true := by rw [decide_eq_true_iff]; omega
        generalize cntF E k = ck at *
        clear hE
        go_wp2_with fail
        exact ⟨⟨k + 1, by omega, by go_num, by rw [HN.out]; go_num, trivial⟩, by simp [intOf]; omega⟩
      · have HN := hid (show cntF E (k + 1) = cntF E k by rw [cntF, if_neg hE]; omega)
        have c1 : wr.cell? ⟨g, k * 3, none⟩ = some (.int .i64 (-1)) := by rw [c0]; unfold keyT; rw [if_neg hE]
        generalize cntF E k = ck at *
        clear hE c0
        go_wp2_with fail
        exact ⟨⟨k + 1, by omega, by go_num, by rw [HN.out], trivial⟩, by simp [intOf]; omega⟩
    · obtain rfl : k = n := by omega
      have hd : decide ((k : Int) < (k : Int)) = false := by rw [decide_eq_false_iff_not]; omega
      go_wp2_with fail
      go_ret
      exact ⟨rfl, rfl⟩
theorem costP_S (b : Nat) (wi hi : Int) (a : Option Addr) (c : Nat) (xs : List Pc) (i : Nat) (w : World) (hB : BrdOk xs) (hn : xs.length ≤ 60) (hb : BdA w b wi hi a xs.length c) (hx : SlA Pc.enc 5 w a xs) (hi0 : i < xs.length) :
    Calls Tryz.prog 79 #[.pointer (some ⟨b, 0, none⟩), .int .i64 i] w fun e w' => e = .returned (.tuple #[.int .i64 (worstA xs i).2, .int .i64 (worstA xs i).1]) ∧ Below w.heap.size w w' := by
  have HFr := hid (fun s (hs : s < 4) W (hB2 : Below w.heap.size w W) => from_S b wi hi a c xs i s W hB hn (hb.below hB2 hb.lt) (hx.below hB2) hi0 hs)
  have HCo := hid (fun g s W (h : FaA W g xs.length (Fal (boOf xs) (one1 i s))) => (count_S g xs.length xs.length _ W hn h).mono (fun e w' h => (show e = .returned (.int .i64 (cntOf (boOf xs) i s : Nat)) ∧ W = w' from h)))
  clear hb hx
  go_enter Tryz.func79, Tryz.ntmps79
  go_wp2_with fail
  go_loopw [6, 7, 8] (fun av mv sv wr => ∃ s : Nat, s ≤ 4 ∧ sv = .int .i64 s ∧ av = .int .i64 (sideW xs i s).1 ∧ mv = .int .i64 (sideW xs i s).2 ∧ Below w.heap.size w wr) (fun _ _ sv _ => 4 - (intOf sv).toNat)
  case atStart => exact ⟨0, Nat.zero_le _, rfl, rfl, rfl, Below.refl _ _⟩
  case round =>
    obtain ⟨s, hs, rfl, rfl, rfl, hbl⟩ := hrel
    have HBL := hid hbl
    clear hbl
    by_cases hlt : s < 4
    · have hd : decide ((s : Int) < 4) = true := by rw [decide_eq_true_iff]; omega
      have hin := sideW_in xs i s
      have hcl : cntOf (boOf xs) i s ≤ xs.length := cntOf_le _ _ _
      have HSu := hid (show sideW xs i (s + 1) = if (sideW xs i s).2 < (cntOf (boOf xs) i s : Int) then ((s : Int), (cntOf (boOf xs) i s : Int)) else sideW xs i s from rfl)
      have HC := hid (fun g W h => HCo.out g s W h)
      obtain ⟨cn, hcn⟩ : ∃ cn, cntOf (boOf xs) i s = cn := ⟨_, rfl⟩
      rw [hcn] at HSu HC hcl
      obtain ⟨m0, hm0⟩ : ∃ m, (sideW xs i s).1 = m := ⟨_, rfl⟩
      obtain ⟨m1, hm1⟩ : ∃ m, (sideW xs i s).2 = m := ⟨_, rfl⟩
      rw [hm0, hm1] at hin
      rw [hm1] at HSu
      have HM0 := hid hm0
      have HM1 := hid hm1
      rw [hm0, hm1]
      clear hcn hm0 hm1
      go_wp2_with fail
      refine (HFr.out s hlt _ HBL.out).mono ?_
      rintro e w1 ⟨g, rfl, hb1, hg, hF⟩
      have HF := hid hF
      have HB1 := hid (below_of HBL.out HBL.out.size hb1)
      clear hF hb1 hg
      go_wp2_with fail
      refine (HC.out g _ HF.out).mono ?_
      rintro e w2 ⟨rfl, rfl⟩
      by_cases hgt : m1 < (cn : Int)
      · have HN := hid (HSu.out.trans (if_pos hgt))
        have e1 : decide ((cn : Int) > m1) = true := decide_eq_true hgt
        go_wp2_with fail
        exact ⟨⟨s + 1, by omega, by go_num, by rw [HN.out], by rw [HN.out], HB1.out⟩, by simp [intOf]; omega⟩
      · have HN := hid (HSu.out.trans (if_neg hgt))
        have e1 : decide ((cn : Int) > m1) = false := decide_eq_false hgt
        go_wp2_with fail
        exact ⟨⟨s + 1, by omega, by go_num, by rw [HN.out, HM0.out], by rw [HN.out, HM1.out], HB1.out⟩, by simp [intOf]; omega⟩
    · obtain rfl : s = 4 := by omega
      go_wp2_with fail
      refine bodyPost_ret (v := .tuple #[.int .i64 (worstA xs i).2, .int .i64 (worstA xs i).1]) (by simp [results, Tryz.results79, go_sem, worstA]) rfl ?_
      exact ⟨rfl, HBL.out⟩
theorem max_Z (x y : Int) (w : World) : Calls Tryz.prog 56 #[.int .i64 x, .int .i64 y] w fun e w' => e = .returned (.int .i64 (max x y)) ∧ w = w' := by
  go_enter Tryz.func56, Tryz.ntmps56
  go_wp2
  all_goals go_ret
  all_goals exact ⟨ret_int (by omega), rfl⟩
theorem worst_S (b : Nat) (wi hi : Int) (a : Option Addr) (c : Nat) (xs : List Pc) (w : World) (hB : BrdOk xs) (hn : xs.length ≤ 60) (hb : BdA w b wi hi a xs.length c) (hx : SlA Pc.enc 5 w a xs) :
    Calls Tryz.prog 58 #[.pointer (some ⟨b, 0, none⟩)] w fun e w' => e = .returned (.int .i64 (costW xs)) ∧ Below w.heap.size w w' := by
  have HCo := hid (fun i (hi0 : i < xs.length) W (hB2 : Below w.heap.size w W) => costP_S b wi hi a c xs i W hB hn (hb.below hB2 hb.lt) (hx.below hB2) hi0)
  have k2 := hid (fun W (hB2 : Below w.heap.size w W) => (hb.below hB2 hb.lt).c2)
  have HEq := hid (costW_eq xs)
  clear hx
  have hbl := hb.lt
  clear hb
  go_enter Tryz.func58, Tryz.ntmps58
  go_wp2_with fail
  go_loopw [3, 4] (fun mv iv wr => ∃ k : Nat, k ≤ xs.length ∧ iv = .int .i64 k ∧ mv = .int .i64 (maxW xs k) ∧ Below w.heap.size w wr) (fun _ iv _ => xs.length - (intOf iv).toNat)
  case atStart => exact ⟨0, Nat.zero_le _, rfl, rfl, Below.refl _ _⟩
  case round =>
    obtain ⟨k, hk, rfl, rfl, hbl⟩ := hrel
    have c2 := k2.out wr hbl
    have HBL := hid hbl
    clear hbl
    by_cases hlt : k < xs.length
    · have hd : decide ((k : Int) < (xs.length : Int)) = true := by rw [decide_eq_true_iff]; omega
      have hki : (k : Int) < (xs.length : Int) := by omega
      have HC := hid (HCo.out k hlt)
      have HN := hid (show maxW xs (k + 1) = max (maxW xs k) (worstA xs k).2 from rfl)
      have hw := worstA_in xs k
      have hm : 0 ≤ maxW xs k ∧ maxW xs k ≤ xs.length := by rw [maxW_eq]; have := pieceW_in xs k; omega
      generalize (worstA xs k).2 = v2 at *
      generalize (worstA xs k).1 = v1 at *
      obtain ⟨m, hm2⟩ : ∃ m, maxW xs k = m := ⟨_, rfl⟩
      rw [hm2] at HN hm ⊢
      clear hm2
      go_wp2_with fail
      refine (HC.out _ HBL.out).mono ?_
      rintro e w1 ⟨rfl, hb1⟩
      have HB1 := hid (below_of HBL.out HBL.out.size hb1)
      clear hb1
      go_wp2_with fail
      refine (max_Z m v2 _).mono ?_
      rintro e w2 ⟨rfl, rfl⟩
      go_wp2_with fail
      exact ⟨⟨k + 1, by omega, by go_num, by rw [HN.out, Int.max_comm], HB1.out⟩, by simp [intOf]; omega⟩
    · obtain rfl : k = xs.length := by omega
      have hd : decide ((xs.length : Int) < (xs.length : Int)) = false := by rw [decide_eq_false_iff_not]; omega
      go_wp2_with fail
      go_ret
      exact ⟨ret_int HEq.out.symm, HBL.out⟩
end Go.Proofs.YtebefcfalnkdmaaGreat
