/-
  The reference's accidents: how a board falls at one push, how many fall, what a piece costs, what a board costs.
  A board that is right; the reference's answers to an accident and to the worst one.
  What the worst accident costs with gaps, both the program's and the reference's.
  Conditions: the board is right, of 60 pieces at most. none beyond those of the types.
-/
import Derived.Test.YthhfndifcdiomaaGreatRunS2
import Derived.Test.YthhfndifcdiomaaGreatGaps
import Derived.Test.YthhfndifcdiomaaGreatWithoutI
import Derived.Test.YthhfndifcdiomaaGreatBoF
namespace Go.Proofs.YthhfndifcdiomaaGreat
open Go.RowKit
set_option linter.unusedSimpArgs false
set_option linter.unusedVariables false

theorem sl_push (w : World) (x y s t : Int) (ty : TypeId) : SlA Pu.enc 4 (w.alloc (.cells #[.int .i8 x, .int .i8 y, .int .i8 s, .int .i16 t] ty)) (some ⟨w.heap.size, 0, none⟩) [⟨x, y, s, t⟩] := by
  refine ⟨by simp, fun _ => ⟨w.heap.size, 0, rfl, by simp, fun i p hi j u hu => ?_⟩⟩
  have hi0 : i = 0 := by
    rcases i with _ | i
    · rfl
    · simp at hi
  subst hi0
  simp only [List.getElem?_cons_zero, Option.some.injEq] at hi
  subst hi
  have hj : j < 4 := (List.getElem?_eq_some_iff.1 hu).1
  have : j = 0 ∨ j = 1 ∨ j = 2 ∨ j = 3 := by omega
  rcases this with rfl | rfl | rfl | rfl
  all_goals (
    simp only [Pu.enc, List.getElem?_cons_zero, List.getElem?_cons_succ, Option.some.injEq] at hu
    subst hu
    simp [go_sem])
set_option maxHeartbeats 1000000 in
theorem from_S (b : Nat) (wi hi : Int) (a : Option Addr) (c : Nat) (xs : List Pc) (i s : Nat) (w : World) (hB : BrdOk xs) (hn : xs.length ≤ 60) (hb : BdA w b wi hi a xs.length c) (hx : SlA Pc.enc 5 w a xs) (hi0 : i < xs.length) (hs : s < 4) :
    Calls Tryz.prog 92 #[.pointer (some ⟨b, 0, none⟩), .int .i64 i, .int .i64 s] w fun e w' => ∃ g, e = .returned (.slice (some ⟨g, 0, none⟩) xs.length xs.length) ∧ Below w.heap.size w w' ∧ w.heap.size ≤ g ∧ FaA w' g xs.length (Fal (boOf xs) (one1 i s)) := by
  obtain ⟨b1, o1, ha, hb1, hc1⟩ := hx.cells (by omega)
  have e1 : xs[i]? = some xs[i] := List.getElem?_eq_getElem hi0
  obtain ⟨q, hq⟩ : ∃ q, xs[i] = q := ⟨_, rfl⟩
  rw [hq] at e1
  have f0 : w.cell? ⟨b1, o1 + i * 5, none⟩ = some (.int .i8 q.x) := hc1 i _ e1 0 _ rfl
  have f1 : w.cell? ⟨b1, o1 + i * 5 + 1, none⟩ = some (.int .i8 q.y) := hc1 i _ e1 1 _ rfl
  have k2 := hb.c2
  have hii : (i : Int) < (xs.length : Int) := by omega
  have ws : IntKind.i8.wrap (s : Int) = s := IntWalk.i8_in _ (by omega)
  have HRun := hid (fun W (hB2 : Below w.heap.size w W) cl h => run_S b wi hi a c xs (some ⟨w.heap.size, 0, none⟩) cl i s q W hB hn (hb.below hB2 hb.lt) (hx.below hB2) e1 hs h)
  obtain ⟨W1, hW1⟩ : ∃ W, W = w.alloc (.cells #[.int .i8 q.x, .int .i8 q.y, .int .i8 (s : Int), .int .i16 0] 145) := ⟨_, rfl⟩
  have HP := hid (show SlA Pu.enc 4 W1 (some ⟨w.heap.size, 0, none⟩) [⟨q.x, q.y, (s : Int), 0⟩] by rw [hW1]; exact sl_push _ _ _ _ _ _)
  have HB1 := hid (show Below w.heap.size w W1 by rw [hW1]; exact (Below.refl _ _).alloc (Nat.le_refl _) _)
  rw [ha] at k2
  clear hb hx hc1 hq e1
  go_enter Tryz.func92, Tryz.ntmps92
  go_wp2_with fail
  rw [← hW1]
  clear hW1
  refine (HRun.out _ HB1.out 1 HP.out).mono ?_
  rintro e w1 ⟨g, rfl, hb2, hg, hF⟩
  have HF := hid hF
  have HB2 := hid (below_of HB1.out HB1.out.size hb2)
  have hgg := Nat.le_trans HB1.out.size hg
  clear hF hb2 hg
  go_wp2_with fail
  refine bodyPost_ret (v := .slice (some ⟨g, 0, none⟩) xs.length xs.length) (by simp [results, Tryz.results92, go_sem]) rfl ?_
  exact ⟨g, rfl, HB2.out, hgg, HF.out⟩
theorem count_S (g n c : Nat) (E : Nat → Nat) (w : World) (hn : n ≤ 60) (h : FaA w g n E) :
    Calls Tryz.prog 91 #[.slice (some ⟨g, 0, none⟩) n c] w fun e w' => e = .returned (.int .i64 (cntF E n : Nat)) ∧ w = w' := by
  have HF := hid h
  clear h
  go_enter Tryz.func91, Tryz.ntmps91
  go_wp2_with fail
  go_loopw [3, 4] (fun cv iv wr => ∃ k : Nat, k ≤ n ∧ iv = .int .i64 k ∧ cv = .int .i64 (cntF E k : Nat) ∧ wr = w) (fun _ iv _ => n - (intOf iv).toNat)
  case atStart => exact ⟨0, Nat.zero_le _, rfl, rfl, rfl⟩
  case round =>
    obtain ⟨k, hk, rfl, rfl, rfl⟩ := hrel
    by_cases hlt : k < n
    · have hd : decide ((k : Int) < (n : Int)) = true := by rw [decide_eq_true_iff]; omega
      have hki : (k : Int) < (n : Int) := by omega
      have c0 := HF.out.c0 k hlt
      have hck := cntF_le E k
      by_cases hE : E k < big
      · rw [keyT_lt hE] at c0
        have HN := hid (show cntF E (k + 1) = cntF E k + 1 by rw [cntF, if_pos hE])
        generalize E k / 4 = tk at *
        have e1 : decide ((tk : Int) ≥ 0) = true := by rw [decide_eq_true_iff]; omega
        generalize cntF E k = ck at *
        clear hE
        go_wp2_with fail
        exact ⟨⟨k + 1, by omega, by go_num, by rw [HN.out]; go_num, trivial⟩, by simp [intOf]; omega⟩
      · have HN := hid (show cntF E (k + 1) = cntF E k by rw [cntF, if_neg hE]; omega)
        have c1 : wr.cell? ⟨g, k * 3, none⟩ = some (.int .i64 (-1)) := by rw [c0]; unfold keyT; rw [if_neg hE]
        generalize cntF E k = ck at *
        clear hE c0
        go_wp2_with fail
        exact ⟨⟨k + 1, by omega, by go_num, by rw [HN.out], trivial⟩, by simp [intOf]; omega⟩
    · obtain rfl : k = n := by omega
      have hd : decide ((k : Int) < (k : Int)) = false := by rw [decide_eq_false_iff_not]; omega
      go_wp2_with fail
      go_ret
      exact ⟨rfl, rfl⟩
theorem costP_S (b : Nat) (wi hi : Int) (a : Option Addr) (c : Nat) (xs : List Pc) (i : Nat) (w : World) (hB : BrdOk xs) (hn : xs.length ≤ 60) (hb : BdA w b wi hi a xs.length c) (hx : SlA Pc.enc 5 w a xs) (hi0 : i < xs.length) :
    Calls Tryz.prog 71 #[.pointer (some ⟨b, 0, none⟩), .int .i64 i] w fun e w' => e = .returned (.tuple #[.int .i64 (worstA xs i).2, .int .i64 (worstA xs i).1]) ∧ Below w.heap.size w w' := by
  have HFr := hid (fun s (hs : s < 4) W (hB2 : Below w.heap.size w W) => from_S b wi hi a c xs i s W hB hn (hb.below hB2 hb.lt) (hx.below hB2) hi0 hs)
  have HCo := hid (fun g s W (h : FaA W g xs.length (Fal (boOf xs) (one1 i s))) => (count_S g xs.length xs.length _ W hn h).mono (fun e w' h => (show e = .returned (.int .i64 (cntOf (boOf xs) i s : Nat)) ∧ W = w' from h)))
  clear hb hx
  go_enter Tryz.func71, Tryz.ntmps71
  go_wp2_with fail
  go_loopw [6, 7, 8] (fun av mv sv wr => ∃ s : Nat, s ≤ 4 ∧ sv = .int .i64 s ∧ av = .int .i64 (sideW xs i s).1 ∧ mv = .int .i64 (sideW xs i s).2 ∧ Below w.heap.size w wr) (fun _ _ sv _ => 4 - (intOf sv).toNat)
  case atStart => exact ⟨0, Nat.zero_le _, rfl, rfl, rfl, Below.refl _ _⟩
  case round =>
    obtain ⟨s, hs, rfl, rfl, rfl, hbl⟩ := hrel
    have HBL := hid hbl
    clear hbl
    by_cases hlt : s < 4
    · have hd : decide ((s : Int) < 4) = true := by rw [decide_eq_true_iff]; omega
      have hin := sideW_in xs i s
      have hcl : cntOf (boOf xs) i s ≤ xs.length := cntOf_le _ _ _
      have HSu := hid (show sideW xs i (s + 1) = if (sideW xs i s).2 < (cntOf (boOf xs) i s : Int) then ((s : Int), (cntOf (boOf xs) i s : Int)) else sideW xs i s from rfl)
      have HC := hid (fun g W h => HCo.out g s W h)
      obtain ⟨cn, hcn⟩ : ∃ cn, cntOf (boOf xs) i s = cn := ⟨_, rfl⟩
      rw [hcn] at HSu HC hcl
      obtain ⟨m0, hm0⟩ : ∃ m, (sideW xs i s).1 = m := ⟨_, rfl⟩
      obtain ⟨m1, hm1⟩ : ∃ m, (sideW xs i s).2 = m := ⟨_, rfl⟩
      rw [hm0, hm1] at hin
      rw [hm1] at HSu
      have HM0 := hid hm0
      have HM1 := hid hm1
      rw [hm0, hm1]
      clear hcn hm0 hm1
      go_wp2_with fail
      refine (HFr.out s hlt _ HBL.out).mono ?_
      rintro e w1 ⟨g, rfl, hb1, hg, hF⟩
      have HF := hid hF
      have HB1 := hid (below_of HBL.out HBL.out.size hb1)
      clear hF hb1 hg
      go_wp2_with fail
      refine (HC.out g _ HF.out).mono ?_
      rintro e w2 ⟨rfl, rfl⟩
      by_cases hgt : m1 < (cn : Int)
      · have HN := hid (HSu.out.trans (if_pos hgt))
        have e1 : decide ((cn : Int) > m1) = true := decide_eq_true hgt
        go_wp2_with fail
        exact ⟨⟨s + 1, by omega, by go_num, by rw [HN.out], by rw [HN.out], HB1.out⟩, by simp [intOf]; omega⟩
      · have HN := hid (HSu.out.trans (if_neg hgt))
        have e1 : decide ((cn : Int) > m1) = false := decide_eq_false hgt
        go_wp2_with fail
        exact ⟨⟨s + 1, by omega, by go_num, by rw [HN.out, HM0.out], by rw [HN.out, HM1.out], HB1.out⟩, by simp [intOf]; omega⟩
    · obtain rfl : s = 4 := by omega
      go_wp2_with fail
      refine bodyPost_ret (v := .tuple #[.int .i64 (worstA xs i).2, .int .i64 (worstA xs i).1]) (by simp [results, Tryz.results71, go_sem, worstA]) rfl ?_
      exact ⟨rfl, HBL.out⟩
theorem max_Z (x y : Int) (w : World) : Calls Tryz.prog 72 #[.int .i64 x, .int .i64 y] w fun e w' => e = .returned (.int .i64 (max x y)) ∧ w = w' := by
  go_enter Tryz.func72, Tryz.ntmps72
  go_wp2
  all_goals go_ret
  all_goals exact ⟨ret_int (by omega), rfl⟩
theorem worst_S (b : Nat) (wi hi : Int) (a : Option Addr) (c : Nat) (xs : List Pc) (w : World) (hB : BrdOk xs) (hn : xs.length ≤ 60) (hb : BdA w b wi hi a xs.length c) (hx : SlA Pc.enc 5 w a xs) :
    Calls Tryz.prog 43 #[.pointer (some ⟨b, 0, none⟩)] w fun e w' => e = .returned (.int .i64 (costW xs)) ∧ Below w.heap.size w w' := by
  have HCo := hid (fun i (hi0 : i < xs.length) W (hB2 : Below w.heap.size w W) => costP_S b wi hi a c xs i W hB hn (hb.below hB2 hb.lt) (hx.below hB2) hi0)
  have k2 := hid (fun W (hB2 : Below w.heap.size w W) => (hb.below hB2 hb.lt).c2)
  have HEq := hid (costW_eq xs)
  clear hx
  have hbl := hb.lt
  clear hb
  go_enter Tryz.func43, Tryz.ntmps43
  go_wp2_with fail
  go_loopw [3, 4] (fun mv iv wr => ∃ k : Nat, k ≤ xs.length ∧ iv = .int .i64 k ∧ mv = .int .i64 (maxW xs k) ∧ Below w.heap.size w wr) (fun _ iv _ => xs.length - (intOf iv).toNat)
  case atStart => exact ⟨0, Nat.zero_le _, rfl, rfl, Below.refl _ _⟩
  case round =>
    obtain ⟨k, hk, rfl, rfl, hbl⟩ := hrel
    have c2 := k2.out wr hbl
    have HBL := hid hbl
    clear hbl
    by_cases hlt : k < xs.length
    · have hd : decide ((k : Int) < (xs.length : Int)) = true := by rw [decide_eq_true_iff]; omega
      have hki : (k : Int) < (xs.length : Int) := by omega
      have HC := hid (HCo.out k hlt)
      have HN := hid (show maxW xs (k + 1) = max (maxW xs k) (worstA xs k).2 from rfl)
      have hw := worstA_in xs k
      have hm : 0 ≤ maxW xs k ∧ maxW xs k ≤ xs.length := by rw [maxW_eq]; have := pieceW_in xs k; omega
      generalize (worstA xs k).2 = v2 at *
      generalize (worstA xs k).1 = v1 at *
      obtain ⟨m, hm2⟩ : ∃ m, maxW xs k = m := ⟨_, rfl⟩
      rw [hm2] at HN hm ⊢
      clear hm2
      go_wp2_with fail
      refine (HC.out _ HBL.out).mono ?_
      rintro e w1 ⟨rfl, hb1⟩
      have HB1 := hid (below_of HBL.out HBL.out.size hb1)
      clear hb1
      go_wp2_with fail
      refine (max_Z m v2 _).mono ?_
      rintro e w2 ⟨rfl, rfl⟩
      go_wp2_with fail
      exact ⟨⟨k + 1, by omega, by go_num, by rw [HN.out, Int.max_comm], HB1.out⟩, by simp [intOf]; omega⟩
    · obtain rfl : k = xs.length := by omega
      have hd : decide ((xs.length : Int) < (xs.length : Int)) = false := by rw [decide_eq_false_iff_not]; omega
      go_wp2_with fail
      go_ret
      exact ⟨ret_int HEq.out.symm, HBL.out⟩
theorem bpcs_of {wi hi : Int} {xs : List Pc} (h : bdOk wi hi xs = true) : ∀ p ∈ xs, pcOk p = true := by
  unfold bdOk at h
  simp only [Bool.and_eq_true] at h
  obtain ⟨_, _, _, h⟩ := h
  rw [List.all_eq_true] at h
  intro p hp
  obtain ⟨k, hk, e⟩ := List.mem_iff_getElem.1 hp
  have := h k (List.mem_range.2 hk)
  unfold okAt at this
  rw [List.getElem?_eq_getElem hk, e] at this
  simp only [Bool.and_eq_true] at this
  exact this.1
theorem bone_of {wi hi : Int} {xs : List Pc} (h : bdOk wi hi xs = true) : ∀ (i j : Nat) p q, xs[i]? = some p → xs[j]? = some q → p.x = q.x → p.y = q.y → i = j := by
  unfold bdOk at h
  simp only [Bool.and_eq_true] at h
  obtain ⟨_, _, _, h⟩ := h
  rw [List.all_eq_true] at h
  have key : ∀ (i j : Nat) p q, xs[i]? = some p → xs[j]? = some q → p.x = q.x → p.y = q.y → ¬ i < j := by
    intro i j p q hp hq hx hy hlt
    have hj := (List.getElem?_eq_some_iff.1 hq).1
    have := h j (List.mem_range.2 hj)
    unfold okAt at this
    rw [hq] at this
    simp only [Bool.and_eq_true, Bool.not_eq_true'] at this
    have h2 := this.2.2
    rw [List.any_eq_false] at h2
    refine h2 p ?_ (by unfold atC; simp [hx, hy])
    obtain ⟨hi', he⟩ := List.getElem?_eq_some_iff.1 hp
    exact List.mem_take_iff_getElem.2 ⟨i, by omega, he⟩
  intro i j p q hp hq hx hy
  have a := key i j p q hp hq hx hy
  have b := key j i q p hq hp hx.symm hy.symm
  omega
theorem inB_iff {n low high : Int} : inB n low high = true ↔ low ≤ n ∧ n ≤ high := by
  unfold inB
  simp
theorem bcells_of {wi hi : Int} {xs : List Pc} (h : bdOk wi hi xs = true) : ∀ q ∈ xs, cellIn q.x q.y 24 24 = true := by
  intro q hq
  have := bpcs_of h q hq
  unfold pcOk at this
  simp only [Bool.and_eq_true] at this
  exact this.2.2.2
theorem bpc_nums {p : Pc} (h : pcOk p = true) : (0 ≤ p.x ∧ p.x ≤ 23) ∧ (0 ≤ p.y ∧ p.y ≤ 23) ∧ (0 ≤ p.k ∧ p.k ≤ 5) ∧ (0 ≤ p.t ∧ p.t ≤ 3) ∧ (1 ≤ p.d ∧ p.d ≤ 9) := by
  unfold pcOk cellIn at h
  simp only [Bool.and_eq_true, inB_iff] at h
  omega
theorem brd_of {wi hi : Int} {xs : List Pc} (h : bdOk wi hi xs = true) : BrdOk xs := by
  have hn : xs.length ≤ 200 := by
    unfold bdOk at h
    simp only [Bool.and_eq_true, decide_eq_true_eq] at h
    exact h.2.2.1
  exact ⟨hn, fun p hp => bpc_nums (bpcs_of h p hp), bone_of h⟩
theorem built_zero {wi hi : Int} {xs : List Pc} (h : builtG wi hi xs = 0) : BrdOk xs ∧ xs.length ≤ 40 := by
  unfold builtG at h
  split at h
  · rename_i hb
    split at h
    · cases h
    · exact ⟨brd_of hb, by omega⟩
  · cases h
theorem built_three (wi hi : Int) (xs : List Pc) : builtG wi hi xs = 0 ∨ builtG wi hi xs = 1 ∨ builtG wi hi xs = 3 := by
  unfold builtG
  split
  · split <;> simp
  · simp
def AccidentsOfG (wi hi : Int) (xs : List Pc) (i : Int) : Int × Int := if builtG wi hi xs = 0 then (if inB i 0 ((xs.length : Int) - 1) = true then ((worstA xs i.toNat).2, 0) else (0, 2)) else (0, builtG wi hi xs)
def WorstAccidentG (wi hi : Int) (xs : List Pc) : Int × Int × Int × Int := if builtG wi hi xs = 0 then (if xs.length = 0 then (0, 0, 0, 6) else ((worstG xs).1, (worstG xs).2.1, (worstG xs).2.2, 0)) else (0, 0, 0, builtG wi hi xs)
theorem keep_sub (gs : List Int) : ∀ (xs : List Pc) (i : Nat), (keepL gs i xs).Sublist xs
  | [], _ => List.Sublist.refl _
  | p :: l, i => by
    unfold keepL
    split
    · exact (keep_sub gs l (i + 1)).cons p
    · exact (keep_sub gs l (i + 1)).cons_cons p
/-- The worst accident with gaps. -/
def leftG (xs : List Pc) (gs : List Int) : Int := costW (keepL gs 0 xs)
theorem costW_in (xs : List Pc) : 0 ≤ costW xs ∧ costW xs ≤ xs.length := by
  have := pieceW_in xs xs.length
  unfold costW worstG
  omega
theorem leftG_in (xs : List Pc) (gs : List Int) : 0 ≤ leftG xs gs ∧ leftG xs gs ≤ xs.length := by
  have h1 := costW_in (keepL gs 0 xs)
  have h2 := (keep_sub gs xs 0).length_le
  unfold leftG
  omega
theorem bd_box (w : World) (wi hi : Int) (A : Option Addr) (n c : Nat) (t : TypeId) : BdA (w.alloc (.cells #[.int .i8 wi, .int .i8 hi, .slice A n c] t)) w.heap.size wi hi A n c := ⟨by simp, by simp [go_sem], by simp [go_sem], by simp [go_sem]⟩
theorem left_S (b : Nat) (wi hi : Int) (a : Option Addr) (c : Nat) (xs : List Pc) (a2 : Option Addr) (c2 : Nat) (gs : List Int) (w : World) (hB : BrdOk xs) (hn : xs.length ≤ 60) (hb : BdA w b wi hi a xs.length c) (h : SlA Pc.enc 5 w a xs) (h2 : SlA en1 1 w a2 gs) :
    Calls Tryz.prog 54 #[.pointer (some ⟨b, 0, none⟩), .slice a2 gs.length c2] w fun e w' => e = .returned (.int .i64 (leftG xs gs)) ∧ Below w.heap.size w w' := by
  have HW := hid (without_S b wi hi a c xs a2 c2 gs w (by omega) hb h h2)
  have hk := (keep_sub gs xs 0).length_le
  have HK := hid (hB.part (keep_sub gs xs 0))
  have HG := hid (show leftG xs gs = costW (keepL gs 0 xs) from rfl)
  generalize keepL gs 0 xs = ys at *
  clear hb h h2 hB
  go_enter Tryz.func54, Tryz.ntmps54
  go_wp2_with fail
  refine HW.out.mono ?_
  rintro e w2 ⟨A, cA, rfl, hb2, own⟩
  obtain ⟨W3, hW3⟩ : ∃ W, W = w2.alloc (.cells #[.int .i8 wi, .int .i8 hi, .slice A ys.length cA] 27) := ⟨_, rfl⟩
  have b3 : Below w2.heap.size w2 W3 := by rw [hW3]; exact (Below.refl _ _).alloc (Nat.le_refl _) _
  have HC := hid (worst_S w2.heap.size wi hi A cA ys W3 HK.out (by omega) (by rw [hW3]; exact bd_box _ _ _ _ _ _ _) ((SlA.of_own Pc.enc_length own).below b3))
  have B3 := hid (below_then hb2 b3)
  clear own hb2 b3
  go_wp2_with fail
  rw [← hW3]
  clear hW3
  refine HC.out.mono ?_
  rintro e w4 ⟨rfl, hb4⟩
  have B4 := hid (below_then B3.out hb4)
  clear hb4
  go_wp2_with fail
  go_ret
  exact ⟨ret_int HG.out.symm, B4.out⟩
end Go.Proofs.YthhfndifcdiomaaGreat
