/-
  The program's accidents: how many fall at one push, the worst side of a piece, the worst piece.
  Conditions: the board is right.
-/
import Derived.Test.YthhfndifcdiomaaGreatRunI
import Derived.Test.YthhfndifcdiomaaGreatBoF
namespace Go.Proofs.YthhfndifcdiomaaGreat
open Go.RowKit
set_option linter.unusedSimpArgs false
set_option linter.unusedVariables false

theorem one_psh {n i sd : Nat} (hi : i < n) (hs : sd < 4) : Psh [⟨0, (i : Nat), (sd : Nat), -1⟩] (one1 i sd) n 1000 := by
  have hb2 : big = 1099511627776 := rfl
  refine ⟨fun h hh => ⟨0, by omega, ?_⟩, fun t p s d h => ?_, fun p s hs4 hp => ?_, one1_le hs⟩
  · rw [List.mem_singleton] at hh
    subst hh
    exact ⟨rfl, ⟨i, rfl, hi⟩, ⟨sd, rfl, hs⟩, by dsimp only; omega, by dsimp only; omega⟩
  · rw [List.mem_singleton] at h
    injection h with h1 h2 h3 h4
    unfold one1
    rw [if_pos (by omega)]
    omega
  · unfold one1 at hp ⊢
    by_cases h : p = i ∧ s = sd
    · obtain ⟨rfl, rfl⟩ := h
      rw [if_pos ⟨rfl, rfl⟩]
      exact ⟨0, -1, List.mem_singleton.2 rfl, by omega⟩
    · rw [if_neg h] at hp
      omega
theorem sla_one {w : World} {q : Q4} (e : TypeId) : SlA Q4.e64 4 (w.alloc (.cells #[.int .i64 q.a, .int .i64 q.b, .int .i64 q.c, .int .i64 q.d] e)) (some ⟨w.heap.size, 0, none⟩) [q] := by
  refine ⟨by simp, fun _ => ⟨_, 0, rfl, by simp, fun i p hi j u hu => ?_⟩⟩
  have hl := (List.getElem?_eq_some_iff.1 hi).1
  simp only [List.length_cons, List.length_nil] at hl
  obtain rfl : i = 0 := by omega
  cases hi
  have hj := (List.getElem?_eq_some_iff.1 hu).1
  have : j = 0 ∨ j = 1 ∨ j = 2 ∨ j = 3 := by simp [Q4.e64] at hj; omega
  rcases this with rfl | rfl | rfl | rfl <;> (cases hu; simp [go_sem])
theorem cost1_I (v : Nat) (s b : Int) (w : World) : Calls Tryz.prog 120 #[.agg #[.int .i64 (keyT v), .int .i8 s, .int .i64 b]] w fun e w' => e = .returned (.bool (decide (v < big))) ∧ Below w.heap.size w w' := by
  have HB := hid (fun o => (Below.refl w.heap.size w).alloc (Nat.le_refl _) o)
  obtain ⟨r, hr⟩ : ∃ r, decide (v < big) = r := ⟨_, rfl⟩
  have hk : (keyT v == (-1)) = !r := by
    unfold keyT
    by_cases h : v < big
    · rw [if_pos h, ← hr, decide_eq_true h]
      show _ = false
      rw [beq_eq_false_iff_ne]
      omega
    · rw [if_neg h, ← hr, decide_eq_false h]
      rfl
  have hk2 : (keyT v != (-1)) = r := by unfold bne; rw [hk, Bool.not_not]
  have HR := hid hr
  clear hr
  generalize keyT v = x at *
  cases r
  all_goals (
    go_enter Tryz.func120, Tryz.ntmps120
    go_wp2_with fail
    go_ret
    exact ⟨ret_bool HR.out.symm, HB.out _⟩)
set_option maxRecDepth 100000 in
set_option maxHeartbeats 1000000 in
theorem indices_I (w : World) (g n c : Nat) (E : Nat → Nat) (h : FaA w g n E) (hn : n ≤ 200) :
    Calls Tryz.prog 118 #[.slice (some ⟨g, 0, none⟩) n c, .func (.func 120) #[] #[]] w fun e w' => ∃ A cc, e = .returned (.slice A (cntF E n) cc) ∧ Below w.heap.size w w' := by
  have HF := hid h
  have HC := hid (fun v s b W => cost1_I v s b W)
  have hc := cntF_le E
  have he : ∀ args W, (callFunc 120 args).run Tryz.prog W = .ok (.enter 120 args) W := enters_of Tryz.func120 (by kernel_rfl) rfl
  clear h
  go_enter Tryz.func118, Tryz.ntmps118
  go_wp2_with fail
  go_loopw [5, 11] (fun o i wr => ∃ (k m : Nat) (B : Option Addr) (c2 : Nat) (L : List Value), k ≤ n ∧ i = .int .i64 k ∧ o = .slice B m c2 ∧ m = cntF E k ∧ wr.ownsRow w.heap.size 2 1 (.slice B m c2) m L ∧ Below w.heap.size w wr) (fun _ i _ => n - (intOf i).toNat)
  case atStart => exact ⟨0, 0, _, _, [], Nat.zero_le _, rfl, rfl, rfl, by simpa using World.ownsRow_lit w #[] 0 (Nat.le_refl _) (by simp [maxLen]) (by simp), (Below.refl _ _).alloc (Nat.le_refl _) _⟩
  case round =>
    obtain ⟨k, m, B, c2, L, hk, rfl, rfl, hm, own, hbl⟩ := hrel
    have Ho := hid own
    have HBL := hid hbl
    have hz := hbl.size
    have hmk : m ≤ k := by rw [hm]; exact hc k
    have HM := hid hm
    by_cases hlt : k < n
    · have hd : decide ((k : Int) < (n : Int)) = true := by rw [decide_eq_true_iff]; omega
      have hki : (k : Int) < (n : Int) := by omega
      have hfa := HF.out.below hbl HF.out.lt
      have f0 := hfa.c0 k hlt
      have f1 := hfa.c1 k hlt
      obtain ⟨b, f2⟩ := hfa.c2 k hlt
      have Hs := hid (HC.out (E k) (keyS (E k)) b)
      have HBX := hid (fun o => (Below.refl wr.heap.size wr).alloc (Nat.le_refl _) o)
      have hcs : cntF E (k + 1) = cntF E k + if E k < big then 1 else 0 := rfl
      by_cases hb : E k < big
      · rw [decide_eq_true hb] at Hs
        rw [if_pos hb] at hcs
        have HCS := hid hcs
        generalize keyT (E k) = x at *
        generalize keyS (E k) = y at *
        clear own hbl hm hfa hcs hb
        go_wp2_with fail
        refine (Hs.out _).mono ?_
        rintro e w2 ⟨rfl, hb9⟩
        have Bv := below_of (HBX.out _) (by simp) hb9
        have B2 := hid (below_of HBL.out hz Bv)
        have O2 := hid (own_step Ho.out Bv)
        have hz2 := B2.out.size
        clear Bv hb9
        go_wp2_with (at_builtin; refine app_one (w := w2) 29 2 (.int .i64 0) 1 8 Tryz.underlying29 (by kernel_rfl) rfl (by decide) w.heap.size _ m _ O2.out ?c1 (by decide) hz2 [.int .i64 k] _ _ rfl rfl rfl _ rfl ?c3 rfl (by intro u hu; simp at hu; rcases hu with rfl; rfl) ?_)
        case c1 => omega
        case c3 => rfl
        intro A2 c3 w3 own3 hb3 hg3 hat3
        have HO3 := hid own3
        have HB3 := hid (B2.out.trans hb3)
        clear own3 hb3 hg3 hat3
        go_wp2_with fail
        exact ⟨⟨k + 1, m + 1, A2, c3, _, by omega, by go_num, rfl, by rw [HCS.out, HM.out], HO3.out, HB3.out⟩, by simp [intOf]; omega⟩
      · rw [decide_eq_false hb] at Hs
        rw [if_neg hb, Nat.add_zero] at hcs
        have HCS := hid hcs
        generalize keyT (E k) = x at *
        generalize keyS (E k) = y at *
        clear own hbl hm hfa hcs hb
        go_wp2_with fail
        refine (Hs.out _).mono ?_
        rintro e w2 ⟨rfl, hb9⟩
        have Bv := below_of (HBX.out _) (by simp) hb9
        have B2 := hid (below_of HBL.out hz Bv)
        have O2 := hid (own_step Ho.out Bv)
        clear Bv hb9
        go_wp2_with fail
        exact ⟨⟨k + 1, m, B, c2, _, by omega, by go_num, rfl, by rw [HCS.out, HM.out]; rfl, O2.out, B2.out⟩, by simp [intOf]; omega⟩
    · obtain rfl : k = n := by omega
      have hd : decide ((k : Int) < (k : Int)) = false := by rw [decide_eq_false_iff_not]; omega
      clear own hbl hm
      go_wp2_with fail
      go_ret
      have hm := HM.out
      exact ⟨B, c2, by rw [← hm]; rfl, HBL.out⟩
set_option maxHeartbeats 1000000 in
theorem cost_I (w : World) (T : StgD) (hS : Stg w T) (hB : BrdOk T.xs) (i sd : Nat) (hi : i < T.xs.length) (hs : sd < 4) :
    Calls Tryz.prog 102 #[.pointer (some ⟨T.sb, 0, none⟩), .int .i64 i, .int .i64 sd] w fun e w' => e = .returned (.int .i64 (cntOf (boOf T.xs) i sd : Nat)) ∧ Below w.heap.size w w' := by
  have hn : T.xs.length ≤ 200 := hB.n
  obtain ⟨bb, bo, hb, ho, pb, po, cb, co, mv, cv, dv, hR, hhit, hmv, hcan, hcv, hdv, hdd⟩ := rdr_of hS hB hi hs
  have s1 := hR.s1
  have cc := hR.cc
  have hii : (i : Int) < (T.xs.length : Int) := by omega
  have HH := hid (fun W => has_Z cv sd W hcv hs)
  rw [hcan] at HH
  have HB := hid hB
  have HIn := hid (fun W g c (h : FaA W g T.xs.length (Fal (boOf T.xs) (one1 i sd))) => (indices_I W g T.xs.length c _ h hn).mono (fun e w' h => (show ∃ A cc, e = .returned (.slice A (cntOf (boOf T.xs) i sd) cc) ∧ Below W.heap.size W w' from h)))
  have hcl : cntOf (boOf T.xs) i sd ≤ T.xs.length := cntOf_le _ _ _
  obtain ⟨W1, hW1⟩ : ∃ W, W = w.alloc (.cells #[.int .i64 0, .int .i64 (i : Int), .int .i64 (sd : Int), .int .i64 (-1)] 161) := ⟨_, rfl⟩
  have B1 : Below w.heap.size w W1 := by rw [hW1]; exact (Below.refl _ _).alloc (Nat.le_refl _) _
  have HRun := hid (run_I W1 T (hS.below B1) hB (some ⟨w.heap.size, 0, none⟩) 1 [⟨0, (i : Nat), (sd : Nat), -1⟩] (by rw [hW1]; exact sla_one (q := ⟨0, (i : Nat), (sd : Nat), -1⟩) _) (by simp) (one1 i sd) (one_psh hi hs))
  have HB1 := hid B1
  have HZ := hid (fun (h : (boOf T.xs).can i sd = false) => cnt_cannot (bo_ok hB) (p := i) hs h)
  generalize cntOf (boOf T.xs) i sd = N at *
  cases hc : (boOf T.xs).can i sd with
  | false =>
    rw [hc] at HH
    have hN := HZ.out hc
    have HN := hid hN
    clear hS hB hR hhit hcan B1 hW1 HRun HIn HZ hc hN hcl
    go_enter Tryz.func102, Tryz.ntmps102
    go_wp2_with (go_at_call 101; refine (HH.out _).mono ?_; rintro e w' ⟨rfl, rfl⟩)
    go_ret
    exact ⟨ret_int (by rw [HN.out]; rfl), Below.refl _ _⟩
  | true =>
    rw [hc] at HH
    clear hS hB hR hhit hcan B1 HZ hc
    go_enter Tryz.func102, Tryz.ntmps102
    go_wp2_with (go_at_call 101; refine (HH.out _).mono ?_; rintro e w' ⟨rfl, rfl⟩)
    rw [← hW1]
    clear hW1
    refine HRun.out.mono ?_
    rintro e w2 ⟨g, c, rfl, hb2, hg2, hf2⟩
    have B2 := hid (below_of HB1.out HB1.out.size hb2)
    have HI2 := hid (HIn.out w2 g c hf2)
    clear hb2 hf2 HRun
    go_wp2_with fail
    refine HI2.out.mono ?_
    rintro e w3 ⟨A3, c3, rfl, hb3⟩
    have B3 := hid (below_of B2.out B2.out.size hb3)
    clear hb3
    go_wp2_with fail
    go_ret
    exact ⟨rfl, B3.out⟩
theorem worstAt_I (w : World) (T : StgD) (hS : Stg w T) (hB : BrdOk T.xs) (i : Nat) (hi : i < T.xs.length) :
    Calls Tryz.prog 85 #[.pointer (some ⟨T.sb, 0, none⟩), .int .i64 i] w fun e w' => e = .returned (.tuple #[.int .i64 (worstA T.xs i).1, .int .i64 (worstA T.xs i).2]) ∧ Below w.heap.size w w' := by
  have HC := hid (fun W (h : Below w.heap.size w W) s (hs : s < 4) => cost_I W T (hS.below h) hB i s hi hs)
  have hsw := sideW_in T.xs i
  clear hS
  go_enter Tryz.func85, Tryz.ntmps85
  go_wp2_with fail
  go_loopw [6, 7, 10] (fun bv mv sv wr => ∃ s : Nat, s ≤ 4 ∧ sv = .int .i64 s ∧ bv = .int .i64 (sideW T.xs i s).1 ∧ mv = .int .i64 (sideW T.xs i s).2 ∧ Below w.heap.size w wr) (fun _ _ sv _ => 4 - (intOf sv).toNat)
  case atStart => exact ⟨0, Nat.zero_le _, rfl, rfl, rfl, Below.refl _ _⟩
  case round =>
    obtain ⟨s, hs4, rfl, rfl, rfl, hbl⟩ := hrel
    have HBL := hid hbl
    by_cases hlt : s < 4
    · have hd : decide ((s : Int) < 4) = true := by rw [decide_eq_true_iff]; omega
      have Hc := hid (HC.out wr hbl s hlt)
      have HSW := hid (show sideW T.xs i (s + 1) = if (sideW T.xs i s).2 < (cntOf (boOf T.xs) i s : Int) then ((s : Int), (cntOf (boOf T.xs) i s : Int)) else sideW T.xs i s from rfl)
      generalize hsu : sideW T.xs i s = u at *
      clear hsu
      generalize cntOf (boOf T.xs) i s = N at *
      by_cases hgt : u.2 < (N : Int)
      · have hg : decide ((N : Int) > u.2) = true := by rw [decide_eq_true_iff]; omega
        have HSU := hid (HSW.out.trans (if_pos hgt))
        clear HSW hbl hsw
        go_wp2_with fail
        refine Hc.out.mono ?_
        rintro e w2 ⟨rfl, hb2⟩
        have B2 := hid (below_of HBL.out HBL.out.size hb2)
        clear hb2
        go_wp2_with fail
        exact ⟨⟨s + 1, by omega, by go_num, by rw [HSU.out], by rw [HSU.out], B2.out⟩, by simp [intOf]; omega⟩
      · have hg : decide ((N : Int) > u.2) = false := by rw [decide_eq_false_iff_not]; omega
        have HSU := hid (HSW.out.trans (if_neg hgt))
        clear HSW hbl hsw
        go_wp2_with fail
        refine Hc.out.mono ?_
        rintro e w2 ⟨rfl, hb2⟩
        have B2 := hid (below_of HBL.out HBL.out.size hb2)
        clear hb2
        go_wp2_with fail
        exact ⟨⟨s + 1, by omega, by go_num, by rw [HSU.out], by rw [HSU.out], B2.out⟩, by simp [intOf]; omega⟩
    · obtain rfl : s = 4 := by omega
      have hd : decide (((4 : Nat) : Int) < 4) = false := by decide
      clear hbl
      go_wp2_with fail
      go_ret2
      exact ⟨rfl, HBL.out⟩
theorem worst_I (w : World) (T : StgD) (hS : Stg w T) (hB : BrdOk T.xs) :
    Calls Tryz.prog 66 #[.pointer (some ⟨T.sb, 0, none⟩)] w fun e w' => e = .returned (.tuple #[.int .i64 (worstG T.xs).1, .int .i64 (worstG T.xs).2.1, .int .i64 (worstG T.xs).2.2]) ∧ Below w.heap.size w w' := by
  have HC := hid (fun W (h : Below w.heap.size w W) i (hi : i < T.xs.length) => worstAt_I W T (hS.below h) hB i hi)
  have c0 := hS.c0
  have hn : T.xs.length ≤ 200 := hB.n
  clear hS
  go_enter Tryz.func66, Tryz.ntmps66
  go_wp2_with fail
  go_loopw [5, 6, 7, 16] (fun pv bv mv iv wr => ∃ i : Nat, i ≤ T.xs.length ∧ iv = .int .i64 i ∧ pv = .int .i64 (pieceW T.xs i).1 ∧ bv = .int .i64 (pieceW T.xs i).2.1 ∧ mv = .int .i64 (pieceW T.xs i).2.2 ∧ Below w.heap.size w wr) (fun _ _ _ iv _ => T.xs.length - (intOf iv).toNat)
  case atStart => exact ⟨0, Nat.zero_le _, rfl, rfl, rfl, rfl, Below.refl _ _⟩
  case round =>
    obtain ⟨i, hi, rfl, rfl, rfl, rfl, hbl⟩ := hrel
    have HBL := hid hbl
    by_cases hlt : i < T.xs.length
    · have hd : decide ((i : Int) < (T.xs.length : Int)) = true := by rw [decide_eq_true_iff]; omega
      have Hc := hid (HC.out wr hbl i hlt)
      have HSW := hid (show pieceW T.xs (i + 1) = if (pieceW T.xs i).1 < 0 ∨ (pieceW T.xs i).2.2 < (worstA T.xs i).2 then ((i : Int), (worstA T.xs i).1, (worstA T.xs i).2) else pieceW T.xs i from rfl)
      generalize hsu : pieceW T.xs i = u at *
      clear hsu
      generalize worstA T.xs i = v at *
      by_cases h1 : u.1 < 0
      · have e1 : decide (u.1 < 0) = true := by rw [decide_eq_true_iff]; exact h1
        have HSU := hid (HSW.out.trans (if_pos (.inl h1)))
        clear HSW hbl
        go_wp2_with fail
        refine Hc.out.mono ?_
        rintro e w2 ⟨rfl, hb2⟩
        have B2 := hid (below_of HBL.out HBL.out.size hb2)
        clear hb2
        go_wp2_with fail
        exact ⟨⟨i + 1, by omega, by go_num, by rw [HSU.out], by rw [HSU.out], by rw [HSU.out], B2.out⟩, by simp [intOf]; omega⟩
      · have e1 : decide (u.1 < 0) = false := by rw [decide_eq_false_iff_not]; exact h1
        by_cases h2 : u.2.2 < v.2
        · have e2 : decide (v.2 > u.2.2) = true := by rw [decide_eq_true_iff]; exact h2
          have HSU := hid (HSW.out.trans (if_pos (.inr h2)))
          clear HSW hbl
          go_wp2_with fail
          refine Hc.out.mono ?_
          rintro e w2 ⟨rfl, hb2⟩
          have B2 := hid (below_of HBL.out HBL.out.size hb2)
          clear hb2
          go_wp2_with fail
          exact ⟨⟨i + 1, by omega, by go_num, by rw [HSU.out], by rw [HSU.out], by rw [HSU.out], B2.out⟩, by simp [intOf]; omega⟩
        · have e2 : decide (v.2 > u.2.2) = false := by rw [decide_eq_false_iff_not]; omega
          have HSU := hid (HSW.out.trans (if_neg (fun h => h.elim h1 h2)))
          clear HSW hbl
          go_wp2_with fail
          refine Hc.out.mono ?_
          rintro e w2 ⟨rfl, hb2⟩
          have B2 := hid (below_of HBL.out HBL.out.size hb2)
          clear hb2
          go_wp2_with fail
          exact ⟨⟨i + 1, by omega, by go_num, by rw [HSU.out], by rw [HSU.out], by rw [HSU.out], B2.out⟩, by simp [intOf]; omega⟩
    · obtain rfl : i = T.xs.length := by omega
      have hd : decide ((T.xs.length : Int) < (T.xs.length : Int)) = false := by rw [decide_eq_false_iff_not]; omega
      clear hbl
      go_wp2_with fail
      go_ret3
      exact ⟨rfl, HBL.out⟩
theorem worstOf_I (wi hi : Int) (a : Option Addr) (c : Nat) (xs : List Pc) (w : World) (hB : BrdOk xs) (h : SlA Pc.enc 5 w a xs) :
    Calls Tryz.prog 32 #[.agg #[.int .i8 wi, .int .i8 hi, .slice a xs.length c]] w fun e w' => e = .returned (.int .i64 (costW xs)) ∧ Below w.heap.size w w' := by
  obtain ⟨W0, hW0⟩ : ∃ W, W = w.alloc (.cells #[.int .i8 wi, .int .i8 hi, .slice a xs.length c] 27) := ⟨_, rfl⟩
  have B0 : Below w.heap.size w W0 := by rw [hW0]; exact (Below.refl _ _).alloc (Nat.le_refl _) _
  have HS := hid (stage_I w.heap.size wi hi a c xs W0 (by rw [hW0]; exact ⟨by simp, by simp [go_sem], by simp [go_sem], by simp [go_sem]⟩) (h.below B0) hB.n hB.pc hB.one)
  have HB := hid hB
  have HB0 := hid B0
  clear B0 hB h
  go_enter Tryz.func32, Tryz.ntmps32
  go_wp2_with fail
  rw [← hW0]
  clear hW0
  refine HS.out.mono ?_
  rintro e w3 ⟨T, rfl, hb3, rfl, _, _, hst⟩
  have HW := hid (worst_I w3 T hst HB.out)
  have HB3 := hid (below_of HB0.out HB0.out.size hb3)
  clear hb3 hst
  go_wp2_with fail
  refine HW.out.mono ?_
  rintro e w4 ⟨rfl, hb4⟩
  have HB4 := hid (below_of HB3.out HB3.out.size hb4)
  clear hb4
  go_wp2_with fail
  go_ret
  exact ⟨rfl, HB4.out⟩
end Go.Proofs.YthhfndifcdiomaaGreat
