/-
  The reference's clock: whether a piece hits its neighbour; the earliest hit that follows from the others.
  The reference's clock: the earliest hit that follows from the others.
  The reference's clock: the latest hit that follows from the others.
  The reference's clock: one pass that finds better earliest hits.
  The reference's clock: one pass that finds better latest hits.
  Conditions: the pieces, pushes and spans are right; what is finite is at most 4000. the pieces, pushes and spans are right.
-/
import Derived.Test.YtnabedhhflfepaaClkA
import Derived.BigQuiet
namespace Go.Proofs.Ytnabedhhflfepaa
open Go.RowKit
set_option linter.unusedSimpArgs false
set_option linter.unusedVariables false

theorem and1_i64 (x : Int) (h0 : 0 ≤ x) (h1 : x ≤ 15) : bits BinOp.and IntKind.i64 x 1 = x % 2 := by
  have : x = 0 ∨ x = 1 ∨ x = 2 ∨ x = 3 ∨ x = 4 ∨ x = 5 ∨ x = 6 ∨ x = 7 ∨ x = 8 ∨ x = 9 ∨ x = 10 ∨ x = 11 ∨ x = 12 ∨ x = 13 ∨ x = 14 ∨ x = 15 := by omega
  rcases this with rfl | rfl | rfl | rfl | rfl | rfl | rfl | rfl | rfl | rfl | rfl | rfl | rfl | rfl | rfl | rfl <;> first | rfl | decide
theorem hitsG_in (k t s : Int) : -1 ≤ hitsG k t s ∧ hitsG k t s ≤ 32 := by
  unfold hitsG
  split
  · omega
  · have := rotTo_in (tab k ((s + 4 - t) % 4)) t 4
    omega
theorem rot_lt (v t : Int) (ht : 0 ≤ t ∧ t ≤ 3) : rotTo v t 4 ≤ 15 := by
  obtain rfl | rfl | rfl | rfl : t = 0 ∨ t = 1 ∨ t = 2 ∨ t = 3 := by omega
  all_goals (
    simp only [rotTo]
    generalize bitI v 0 = b0
    generalize bitI v 1 = b1
    generalize bitI v 2 = b2
    generalize bitI v 3 = b3
    cases b0 <;> cases b1 <;> cases b2 <;> cases b3 <;> decide)
theorem hitsG_lt {k t s : Int} (ht : 0 ≤ t ∧ t ≤ 3) : hitsG k t s ≤ 15 := by
  unfold hitsG
  split
  · omega
  · exact rot_lt _ _ ht
theorem dn_neg (v : Nat) : decide (dn v < 0) = decide (¬ v < big) := by
  unfold dn
  rw [decide_eq_decide]
  split <;> omega
def soonV (N : Net) (L E : Nat → Nat) (i s : Nat) : Nat :=
  min (N.push i s) (match N.near i s with
    | none => big
    | some q => best4 fun fr => gE N L q fr (opp s) (E (4 * q + fr)))
def latestV (N : Net) (S : Nat → Nat → Bool) (E : Nat → Nat) (i s : Nat) : Nat :=
  min (N.push i s) (match N.near i s with
    | none => big
    | some q => gL N S q (opp s) (best4 fun fr => E (4 * q + fr)))
theorem early_at {N : Net} {L E : Nat → Nat} {i s : Nat} (hi : i < N.n) (hs : s < 4) : earlyF N L E (4 * i + s) = if N.can i s = true then soonV N L E i s else big := by
  unfold earlyF soonV
  rw [show (4 * i + s) / 4 = i by omega, show (4 * i + s) % 4 = s by omega]
  by_cases h : N.can i s = true
  · rw [if_pos ⟨by omega, h⟩, if_pos h]
    rfl
  · rw [if_neg (fun e => h e.2), if_neg h]
theorem late_at {N : Net} {S : Nat → Nat → Bool} {E : Nat → Nat} {i s : Nat} (hi : i < N.n) (hs : s < 4) : lateF N S E (4 * i + s) = if N.can i s = true then latestV N S E i s else big := by
  unfold lateF latestV
  rw [show (4 * i + s) / 4 = i by omega, show (4 * i + s) % 4 = s by omega]
  by_cases h : N.can i s = true
  · rw [if_pos ⟨by omega, h⟩, if_pos h]
    rfl
  · rw [if_neg (fun e => h e.2), if_neg h]
theorem near_nat {xs : List Pc} {i s : Nat} (h : 0 ≤ nearI xs i s) : ∃ j : Nat, nearI xs i s = j ∧ j < xs.length := by
  unfold nearI at h ⊢
  cases e : xs[i]? with
  | none => rw [e] at h; simp at h
  | some p =>
    rw [e] at h
    dsimp only at h ⊢
    cases ha : xs.any (atC (nx p.x s) (ny p.y s)) with
    | false => rw [idxOf_none ha] at h; omega
    | true =>
      obtain ⟨k, x, e1, e2, _⟩ := idxOf_some ha
      exact ⟨k, e1, (List.getElem?_eq_some_iff.1 e2).1⟩
set_option maxRecDepth 100000 in
theorem hitsC_S (cb : Nat) (D : ClkD) (i f t : Nat) (w : World) (hD : D.Ok) (hc : Clk w cb D) (hi : i < D.xs.length) (hf : f < 4) (ht : t < 4) :
    Calls Try.prog 93 #[.pointer (some ⟨cb, 0, none⟩), .int .i64 i, .int .i64 f, .int .i64 t] w fun e w' => e = .returned (.bool (D.net.hit i f t)) ∧ Below w.heap.size w w' := by
  obtain ⟨b1, o1, ha, hb1, hc1⟩ := hc.px.cells (by omega)
  have e1 : D.xs[i]? = some D.xs[i] := List.getElem?_eq_getElem hi
  have okp := hD.pc _ (List.getElem_mem hi)
  have HV := hid (show D.net.hit i f t = (decide (0 ≤ hitsG D.xs[i].k D.xs[i].t f) && bitI (hitsG D.xs[i].k D.xs[i].t f) t) by simp only [ClkD.net, netOf]; rw [e1])
  have f2 : w.cell? ⟨b1, o1 + i * 5 + 2, none⟩ = some (.int .i8 D.xs[i].k) := hc1 i _ e1 2 _ rfl
  have f3 : w.cell? ⟨b1, o1 + i * 5 + 3, none⟩ = some (.int .i8 D.xs[i].t) := hc1 i _ e1 3 _ rfl
  generalize D.xs[i] = p at *
  have hn := hD.n
  have hi1 : (i : Int) < (D.xs.length : Int) := by omega
  have Hh := hid (hits_S b1 (o1 + i * 5) p.k p.t f w okp.2.2.1 okp.2.2.2.1 (by omega) hb1 f2 f3)
  have hv0 := (hitsG_in p.k p.t f).1
  have hv1 := hitsG_lt (k := p.k) (s := f) okp.2.2.2.1
  obtain ⟨g9, g0, g1, g2⟩ := hc.bd
  rw [ha] at g2
  have z0 := hc.c0
  generalize hitsG p.k p.t f = v at *
  clear e1 hc1 okp f2 f3
  go_enter Try.func93, Try.ntmps93
  go_wp2_with fail
  refine Hh.out.mono ?_
  rintro e w1 ⟨rfl, hb9⟩
  by_cases hv : 0 ≤ v
  · have e0 : decide (v ≥ 0) = true := by rw [decide_eq_true_iff]; exact hv
    have HV2 := hid (show D.net.hit i f t = bitI v t by rw [HV.out, decide_eq_true hv, Bool.true_and])
    have a0 := and1_i64 v hv hv1
    have a1 := and1_i64 (v / 2) (by omega) (by omega)
    have a2 := and1_i64 (v / 4) (by omega) (by omega)
    have a3 := and1_i64 (v / 8) (by omega) (by omega)
    have ht4 : t = 0 ∨ t = 1 ∨ t = 2 ∨ t = 3 := by omega
    rcases ht4 with rfl | rfl | rfl | rfl
    all_goals (
      go_wp2_with fail
      go_ret
      refine ⟨ret_bool ?_, hb9⟩
      rw [HV2.out]
      unfold bitI
      rw [Bool.eq_iff_iff]
      simp [a0, a1, a2, a3])
  · have e0 : decide (v ≥ 0) = false := by rw [decide_eq_false_iff_not]; omega
    have HV2 := hid (show D.net.hit i f t = false by rw [HV.out, decide_eq_false hv, Bool.false_and])
    go_wp2_with fail
    go_ret
    exact ⟨ret_bool HV2.out.symm, hb9⟩
def Few (E : Nat → Nat) : Prop := ∀ y, E y < big → E y ≤ 4000
def gTo (p : Nat) (f : Nat → Nat) : Nat → Nat
  | 0 => p
  | k + 1 => min (gTo p f k) (f k)
theorem gTo_four (p : Nat) (f : Nat → Nat) : gTo p f 4 = min p (best4 f) := by
  simp only [gTo, best4]
  omega
theorem gTo_le {p : Nat} (h : p ≤ big) (f : Nat → Nat) : ∀ k, gTo p f k ≤ big
  | 0 => h
  | k + 1 => by have := gTo_le h f k; simp only [gTo]; omega
theorem push_in {D : ClkD} (hD : D.Ok) (i s : Nat) : D.net.push i s ≤ big := by
  simp only [ClkD.net, netOf]
  cases D.xs[i]? with
  | none => exact Nat.le_refl _
  | some p => exact pushV_le _ _ _ _
theorem opp_rem {s : Nat} (hs : s < 4) : ((s : Int) + 2).tmod 4 = ((opp s : Nat) : Int) := by
  unfold opp
  rw [Int.tmod_eq_emod_of_nonneg (by omega)]
  omega
theorem opp_lt (s : Nat) : opp s < 4 := by unfold opp; omega
theorem near_some {D : ClkD} {i s j : Nat} (h : nearI D.xs i s = j) : D.net.near i s = some j := by
  simp only [ClkD.net, netOf]
  rw [h, if_neg (by omega), Int.toNat_natCast]
theorem near_none {D : ClkD} {i s : Nat} (h : nearI D.xs i s < 0) : D.net.near i s = none := by
  simp only [ClkD.net, netOf]
  rw [if_pos h]
set_option maxRecDepth 100000 in
set_option maxHeartbeats 1000000 in
theorem soon_S (cb eg lg ec lc : Nat) (D : ClkD) (E L : Nat → Nat) (i s : Nat) (w : World) (hD : D.Ok) (hc : Clk w cb D) (hi : i < D.xs.length) (hs : s < 4)
    (k4 : w.cell? ⟨cb, 4, none⟩ = some (.slice (some ⟨eg, 0, none⟩) D.xs.length ec)) (k5 : w.cell? ⟨cb, 5, none⟩ = some (.slice (some ⟨lg, 0, none⟩) D.xs.length lc)) (hE : TkA w eg D.xs.length E) (hL : TkA w lg D.xs.length L) (hF : Few E) :
    Calls Try.prog 77 #[.pointer (some ⟨cb, 0, none⟩), .int .i64 i, .int .i64 s] w fun e w' => e = .returned (.int .i64 (dn (soonV D.net L E i s))) ∧ Below w.heap.size w w' := by
  have hn := hD.n
  have Hp := hid (pushed_S cb D i s w hD hc hi hs)
  have hpl := push_in hD i s
  obtain ⟨ng, hna, hng, hnr⟩ := hc.nr (by omega)
  have n0 := hnr i s hi hs
  have z3 := hc.c3
  rw [hna] at z3
  have hi1 : (i : Int) < (D.xs.length : Int) := by omega
  have hs1 : (s : Int) < 4 := by omega
  have hbig := hid (show big = 1099511627776 from rfl)
  by_cases hneg : nearI D.xs i s < 0
  · have HV := hid (show soonV D.net L E i s = D.net.push i s by unfold soonV; rw [near_none hneg]; dsimp only; omega)
    generalize D.net.push i s = pv at *
    generalize nearI D.xs i s = nv at *
    have hd : decide (nv ≥ 0) = false := by rw [decide_eq_false_iff_not]; omega
    clear hnr hna
    go_enter Try.func77, Try.ntmps77
    go_wp2_with fail
    refine Hp.out.mono ?_
    rintro e w1 ⟨rfl, hb1⟩
    have y3 := cell_on hb1 z3
    have y0 := cell_on hb1 n0
    go_wp2_with fail
    go_loop [7, 9] (fun bv kv => bv = .int .i64 (dn pv) ∧ kv = .int .i64 0) (fun _ _ => 0)
    case atStart => exact ⟨rfl, rfl⟩
    case round =>
      obtain ⟨rfl, rfl⟩ := hrel
      go_wp2_with fail
      go_ret
      exact ⟨ret_int (congrArg dn HV.out.symm), hb1⟩
  · obtain ⟨j, hj, hjl⟩ := near_nat (xs := D.xs) (i := i) (s := s) (by omega)
    have HV := hid (show soonV D.net L E i s = min (D.net.push i s) (best4 fun fr => gE D.net L j fr (opp s) (E (4 * j + fr))) by unfold soonV; rw [near_some hj])
    rw [hj] at n0
    have hlow : ∃ l : Nat, D.net.low j = l ∧ 1 ≤ l ∧ l ≤ 9 ∧ ∃ x, D.ss[j]? = some x ∧ x.lo = (l : Int) := by
      have e : D.ss[j]? = some (D.ss[j]'(by rw [hD.len]; exact hjl)) := List.getElem?_eq_getElem _
      have ok := hD.sp _ (List.getElem_mem (show j < D.ss.length by rw [hD.len]; exact hjl))
      refine ⟨(D.ss[j]'(by rw [hD.len]; exact hjl)).lo.toNat, ?_, by omega, by omega, _, e, by omega⟩
      simp only [ClkD.net, netOf]
      rw [e]
    obtain ⟨l, hl, hl1, hl9, xx, hxx, hxl⟩ := hlow
    obtain ⟨b3, o3, ha3, hb3, hc3⟩ := hc.sp.cells (by rw [hD.len]; omega)
    have v0 : w.cell? ⟨b3, o3 + j * 2, none⟩ = some (.int .i8 xx.lo) := hc3 j _ hxx 0 _ rfl
    rw [hxl] at v0
    have z2 := hc.c2
    rw [ha3] at z2
    have hsl := hD.len
    have hj1 : (j : Int) < (D.xs.length : Int) := by omega
    have hj2 : (j : Int) < (D.ss.length : Int) := by omega
    have hj3 : j < D.ss.length := by omega
    obtain ⟨pv, hpv⟩ : ∃ pv, D.net.push i s = pv := ⟨_, rfl⟩
    rw [hpv] at HV Hp hpl
    clear hnr hna hneg hj hpv hc3 hxx hxl ha3
    go_enter Try.func77, Try.ntmps77
    go_wp2_with fail
    refine Hp.out.mono ?_
    rintro e w1 ⟨rfl, hb1⟩
    have y3 := cell_on hb1 z3
    have y0 := cell_on hb1 n0
    go_wp2_with fail
    go_loopw [7, 9] (fun bv kv wr => ∃ k : Nat, k ≤ 4 ∧ kv = .int .i64 k ∧ bv = .int .i64 (dn (gTo pv (fun fr => gE D.net L j fr (opp s) (E (4 * j + fr))) k)) ∧ Below w.heap.size w wr) (fun _ kv _ => 4 - (intOf kv).toNat)
    case atStart => exact ⟨0, Nat.zero_le _, rfl, rfl, hb1⟩
    case round =>
      obtain ⟨k, hk, rfl, rfl, hbl⟩ := hrel
      have hz := hbl.size
      by_cases hlt : k < 4
      · have x4 := cell_on hbl k4
        have x5 := cell_on hbl k5
        have Hm := hid (fun W (hB : Below w.heap.size w W) => may_S cb eg lg D.xs.length ec lc E L j k W hjl hlt hn (cell_on hB k4) (cell_on hB k5) (hE.below hB hE.lt) (hL.below hB hL.lt))
        have Hh := hid (fun W (hB : Below w.heap.size w W) => hitsC_S cb D j k (opp s) W hD (hc.below hB) hjl hlt (opp_lt s))
        obtain ⟨d1, hd1⟩ : ∃ d : Bool, mayT E L j k = d := ⟨_, rfl⟩
        obtain ⟨d2, hd2⟩ : ∃ d : Bool, D.net.hit j k (opp s) = d := ⟨_, rfl⟩
        have HS := hid (show gTo pv (fun fr => gE D.net L j fr (opp s) (E (4 * j + fr))) (k + 1) = min (gTo pv (fun fr => gE D.net L j fr (opp s) (E (4 * j + fr))) k) (gE D.net L j k (opp s) (E (4 * j + k))) from rfl)
        have hml := gTo_le hpl (fun fr => gE D.net L j fr (opp s) (E (4 * j + fr))) k
        have hg : gE D.net L j k (opp s) (E (4 * j + k)) = if d1 = true ∧ d2 = true then min big (E (4 * j + k) + l) else big := by
          unfold gE
          rw [hd2, hl, ← hd1]
          rfl
        have ht : d1 = true → E (4 * j + k) < big := by
          intro h
          rw [← hd1] at h
          unfold mayT at h
          simp only [Bool.and_eq_true, decide_eq_true_eq] at h
          exact h.1
        rw [hd1] at Hm
        rw [hd2] at Hh
        obtain ⟨m, hm⟩ : ∃ m, gTo pv (fun fr => gE D.net L j fr (opp s) (E (4 * j + fr))) k = m := ⟨_, rfl⟩
        rw [hm] at HS hml
        rw [hm]
        rw [hg] at HS
        have hs2 : IntKind.i64.wrap ((s : Int) + 2) = (s : Int) + 2 := IntWalk.i64_in _ (by omega)
        have hopp := opp_rem hs
        have hopp2 : ((s : Int) + 2) % 4 = ((opp s : Nat) : Int) := by unfold opp; omega
        have ev := cell_on hbl (hE.c j k hjl hlt)
        have hk1 : (k : Int) < 4 := by omega
        have v1 := cell_on hbl v0
        have w2 := cell_on hbl z2
        have FE := hF (4 * j + k)
        generalize E (4 * j + k) = t at *
        clear hd1 hd2 hm hg
        have hcs : d1 = false ∨ (d1 = true ∧ d2 = false) ∨ (d1 = true ∧ d2 = true) := by cases d1 <;> cases d2 <;> simp
        rcases hcs with rfl | ⟨rfl, rfl⟩ | ⟨rfl, rfl⟩
        · go_wp2_with fail
          refine (Hm.out _ hbl).mono ?_
          rintro e w9 ⟨rfl, rfl⟩
          go_wp2_with fail
          exact ⟨⟨k + 1, by omega, by go_num, by rw [HS.out]; simp only [Bool.false_eq_true, false_and, if_false]; rw [Nat.min_eq_left hml], hbl⟩, by simp [intOf]; omega⟩
        · go_wp2_with fail
          refine (Hm.out _ hbl).mono ?_
          rintro e w9 ⟨rfl, rfl⟩
          go_wp2_with fail
          refine (Hh.out _ hbl).mono ?_
          rintro e w8 ⟨rfl, hb8⟩
          go_wp2_with fail
          exact ⟨⟨k + 1, by omega, by go_num, by rw [HS.out]; simp only [Bool.false_eq_true, and_false, if_false]; rw [Nat.min_eq_left hml], below_of hbl hz hb8⟩, by simp [intOf]; omega⟩
        · have htb := ht rfl
          have ht4 := FE htb
          rw [dn_lt htb] at ev
          have hwt : IntKind.i64.wrap ((t : Int) + (l : Int)) = (t : Int) + (l : Int) := IntWalk.i64_in _ (by omega)
          have hwl : IntKind.i64.wrap (l : Int) = (l : Int) := IntWalk.i64_in _ (by omega)
          have hsum : t + l < big := by have := hbig.out; omega
          have HS2 := hid (show gTo pv (fun fr => gE D.net L j fr (opp s) (E (4 * j + fr))) (k + 1) = min m (t + l) by rw [HS.out]; simp only [and_self, if_true]; rw [Nat.min_eq_right (show t + l ≤ big by omega)])
          have CST := hid (show (t : Int) + (l : Int) = ((t + l : Nat) : Int) by omega)
          have z8 : ∀ w8, Below wr.heap.size wr w8 → w8.cell? ⟨eg, j * 4 + k, none⟩ = some (.int .i64 (t : Int)) := fun w8 h => cell_on h ev
          clear ev HS ht FE htb
          go_wp2_with fail
          refine (Hm.out _ hbl).mono ?_
          rintro e w9 ⟨rfl, rfl⟩
          go_wp2_with fail
          refine (Hh.out _ hbl).mono ?_
          rintro e w8 ⟨rfl, hb8⟩
          have q1 := z8 _ hb8
          have q2 := cell_on hb8 x4
          have q3 := cell_on hb8 w2
          have q4 := cell_on hb8 v1
          have B8 := below_of hbl hz hb8
          by_cases hmb : m < big
          · rw [dn_lt hmb]
            have e4 : decide ((m : Int) < 0) = false := by rw [decide_eq_false_iff_not]; omega
            by_cases h5 : t + l < m
            · have e5 : decide ((t : Int) + (l : Int) < (m : Int)) = true := by rw [decide_eq_true_iff]; omega
              go_wp2_with fail
              go_quiet (fail)
              go_wp2_with fail
              exact ⟨⟨k + 1, by omega, by go_num, by rw [HS2.out, Nat.min_eq_right (by omega), dn_lt hsum, CST.out], below_drewN B8 _⟩, by simp [intOf]; omega⟩
            · have e5 : decide ((t : Int) + (l : Int) < (m : Int)) = false := by rw [decide_eq_false_iff_not]; omega
              go_wp2_with fail
              go_quiet (fail)
              go_wp2_with fail
              exact ⟨⟨k + 1, by omega, by go_num, by rw [HS2.out, Nat.min_eq_left (by omega), dn_lt hmb], below_drewN B8 _⟩, by simp [intOf]; omega⟩
          · rw [dn_ge hmb]
            go_wp2_with fail
            go_quiet (fail)
            go_wp2_with fail
            exact ⟨⟨k + 1, by omega, by go_num, by rw [HS2.out, Nat.min_eq_right (by omega), dn_lt hsum, CST.out], below_drewN B8 _⟩, by simp [intOf]; omega⟩
      · obtain rfl : k = 4 := by omega
        go_wp2_with fail
        go_ret
        exact ⟨ret_int (by rw [HV.out, gTo_four]), hbl⟩
structure SdA (w : World) (g n : Nat) (S : Nat → Nat → Bool) : Prop where
  lt : g < w.heap.size
  c : ∀ i s, i < n → s < 4 → w.cell? ⟨g, i * 4 + s, none⟩ = some (.bool (S i s))
theorem SdA.below {w w1 : World} {g n B : Nat} {S : Nat → Nat → Bool} (h : SdA w g n S) (hb : Below B w w1) (hB : g < B) : SdA w1 g n S :=
  ⟨Nat.lt_of_lt_of_le h.lt hb.size, fun i s hi hs => (hb.cell (p := ⟨g, _, none⟩) hB).trans (h.c i s hi hs)⟩
theorem always_false {N : Net} {S : Nat → Nat → Bool} {q tt fr : Nat} (hf : fr < 4) (h1 : S q fr = true) (h2 : N.hit q fr tt = false) : always N S q tt = false := by
  unfold always
  rw [List.all_eq_false]
  exact ⟨fr, List.mem_range.2 hf, by simp [h1, h2]⟩
theorem always_true {N : Net} {S : Nat → Nat → Bool} {q tt : Nat} (h : ∀ fr, fr < 4 → (!S q fr || N.hit q fr tt) = true) : always N S q tt = true := by
  unfold always
  rw [List.all_eq_true]
  exact fun fr hf => h fr (List.mem_range.1 hf)
theorem best4_big {f : Nat → Nat} {n : Nat} (h : ∀ k, k < 4 → f k < big → f k ≤ n) (hb : best4 f < big) : best4 f ≤ n := by
  obtain ⟨k, hk, e⟩ := best4_ex f
  rw [e] at hb ⊢
  exact h k hk hb
set_option maxRecDepth 100000 in
set_option maxHeartbeats 1000000 in
theorem latest_S (cb sg lg sc lc : Nat) (D : ClkD) (S : Nat → Nat → Bool) (L : Nat → Nat) (i s : Nat) (w : World) (hD : D.Ok) (hc : Clk w cb D) (hi : i < D.xs.length) (hs : s < 4)
    (k6 : w.cell? ⟨cb, 6, none⟩ = some (.slice (some ⟨sg, 0, none⟩) D.xs.length sc)) (k5 : w.cell? ⟨cb, 5, none⟩ = some (.slice (some ⟨lg, 0, none⟩) D.xs.length lc)) (hS : SdA w sg D.xs.length S) (hL : TkA w lg D.xs.length L) (hF : Few L) :
    Calls Try.prog 76 #[.pointer (some ⟨cb, 0, none⟩), .int .i64 i, .int .i64 s] w fun e w' => e = .returned (.int .i64 (dn (latestV D.net S L i s))) ∧ Below w.heap.size w w' := by
  have hn := hD.n
  have Hp := hid (pushed_S cb D i s w hD hc hi hs)
  have hpl := push_in hD i s
  obtain ⟨ng, hna, hng, hnr⟩ := hc.nr (by omega)
  have n0 := hnr i s hi hs
  have z3 := hc.c3
  rw [hna] at z3
  have hi1 : (i : Int) < (D.xs.length : Int) := by omega
  have hs1 : (s : Int) < 4 := by omega
  have hbig := hid (show big = 1099511627776 from rfl)
  by_cases hneg : nearI D.xs i s < 0
  · have HV := hid (show latestV D.net S L i s = D.net.push i s by unfold latestV; rw [near_none hneg]; dsimp only; omega)
    generalize D.net.push i s = pv at *
    generalize nearI D.xs i s = nv at *
    have hd : decide (nv < 0) = true := by rw [decide_eq_true_iff]; omega
    clear hnr hna
    go_enter Try.func76, Try.ntmps76
    go_wp2_with fail
    refine Hp.out.mono ?_
    rintro e w1 ⟨rfl, hb1⟩
    have y3 := cell_on hb1 z3
    have y0 := cell_on hb1 n0
    go_wp2_with fail
    go_ret
    exact ⟨ret_int (congrArg dn HV.out.symm), hb1⟩
  obtain ⟨j, hj, hjl⟩ := near_nat (xs := D.xs) (i := i) (s := s) (by omega)
  have HV := hid (show latestV D.net S L i s = min (D.net.push i s) (gL D.net S j (opp s) (best4 fun fr => L (4 * j + fr))) by unfold latestV; rw [near_some hj])
  rw [hj] at n0
  have hHigh : ∃ l : Nat, D.net.high j = l ∧ 1 ≤ l ∧ l ≤ 9 ∧ ∃ x, D.ss[j]? = some x ∧ x.hi = (l : Int) := by
    have e : D.ss[j]? = some (D.ss[j]'(by rw [hD.len]; exact hjl)) := List.getElem?_eq_getElem _
    have ok := hD.sp _ (List.getElem_mem (show j < D.ss.length by rw [hD.len]; exact hjl))
    refine ⟨(D.ss[j]'(by rw [hD.len]; exact hjl)).hi.toNat, ?_, by omega, by omega, _, e, by omega⟩
    simp only [ClkD.net, netOf]
    rw [e]
  obtain ⟨l, hl, hl1, hl9, xx, hxx, hxl⟩ := hHigh
  obtain ⟨b3, o3, ha3, hb3, hc3⟩ := hc.sp.cells (by rw [hD.len]; omega)
  have v0 : w.cell? ⟨b3, o3 + j * 2 + 1, none⟩ = some (.int .i8 xx.hi) := hc3 j _ hxx 1 _ rfl
  rw [hxl] at v0
  have z2 := hc.c2
  rw [ha3] at z2
  have hsl := hD.len
  have hj1 : (j : Int) < (D.xs.length : Int) := by omega
  have hj2 : (j : Int) < (D.ss.length : Int) := by omega
  have hj3 : j < D.ss.length := by omega
  have hj0 : decide ((j : Int) < 0) = false := by rw [decide_eq_false_iff_not]; omega
  have Hl := hid (fun W (hB : Below w.heap.size w W) => least_S cb lg D.xs.length lc L j W hjl hn (cell_on hB k5) (hL.below hB hL.lt))
  have hFL := hid (fun h : (best4 fun k => L (4 * j + k)) < big => best4_big (n := 4000) (fun k _ h2 => hF _ h2) h)
  have hgL : gL D.net S j (opp s) (best4 fun fr => L (4 * j + fr)) = if always D.net S j (opp s) = true then min big ((best4 fun fr => L (4 * j + fr)) + l) else big := by unfold gL; rw [hl]
  rw [hgL] at HV
  obtain ⟨pv, hpv⟩ : ∃ pv, D.net.push i s = pv := ⟨_, rfl⟩
  rw [hpv] at HV Hp hpl
  obtain ⟨t, htt⟩ : ∃ t, (best4 fun k => L (4 * j + k)) = t := ⟨_, rfl⟩
  rw [htt] at HV Hl hFL
  clear hnr hna hneg hj hpv hc3 hxx hxl ha3 hgL htt
  by_cases htb : t < big
  · have ht4 := hFL.out htb
    rw [dn_lt htb] at Hl
    have htn : decide ((t : Int) < 0) = false := by rw [decide_eq_false_iff_not]; omega
    go_enter Try.func76, Try.ntmps76
    go_wp2_with fail
    refine Hp.out.mono ?_
    rintro e w1 ⟨rfl, hb1⟩
    have y3 := cell_on hb1 z3
    have y0 := cell_on hb1 n0
    go_wp2_with fail
    refine (Hl.out _ hb1).mono ?_
    rintro e w2 ⟨rfl, rfl⟩
    go_wp2_with fail
    go_loopw [9] (fun kv wr => ∃ k : Nat, k ≤ 4 ∧ kv = .int .i64 k ∧ (∀ fr, fr < k → (!S j fr || D.net.hit j fr (opp s)) = true) ∧ Below w.heap.size w wr) (fun kv _ => 4 - (intOf kv).toNat)
    case atStart => exact ⟨0, Nat.zero_le _, rfl, fun fr h => by omega, hb1⟩
    case round =>
      obtain ⟨k, hk, rfl, hno, hbl⟩ := hrel
      have HN := hid hno
      clear hno
      have hz := hbl.size
      by_cases hlt : k < 4
      · have x6 := cell_on hbl k6
        have Hh := hid (fun W (hB : Below w.heap.size w W) => hitsC_S cb D j k (opp s) W hD (hc.below hB) hjl hlt (opp_lt s))
        have ev := cell_on hbl (hS.c j k hjl hlt)
        obtain ⟨d1, hd1⟩ : ∃ d : Bool, S j k = d := ⟨_, rfl⟩
        obtain ⟨d2, hd2⟩ : ∃ d : Bool, D.net.hit j k (opp s) = d := ⟨_, rfl⟩
        rw [hd1] at ev
        rw [hd2] at Hh
        have hs2 : IntKind.i64.wrap ((s : Int) + 2) = (s : Int) + 2 := IntWalk.i64_in _ (by omega)
        have hopp := opp_rem hs
        have hopp2 : ((s : Int) + 2) % 4 = ((opp s : Nat) : Int) := by unfold opp; omega
        have hk1 : (k : Int) < 4 := by omega
        have HX := hid (And.intro hd1 hd2)
        clear hd1 hd2
        have hcs : d1 = false ∨ (d1 = true ∧ d2 = false) ∨ (d1 = true ∧ d2 = true) := by cases d1 <;> cases d2 <;> simp
        have step : (!d1 || d2) = true → ∀ fr, fr < k + 1 → (!S j fr || D.net.hit j fr (opp s)) = true := by
          intro h fr hfr
          rcases Nat.lt_or_ge fr k with h1 | h1
          · exact HN.out fr h1
          · obtain rfl : fr = k := by omega
            rw [HX.out.1, HX.out.2]
            exact h
        have Step := hid step
        clear step
        rcases hcs with rfl | ⟨rfl, rfl⟩ | ⟨rfl, rfl⟩
        · go_wp2_with fail
          exact ⟨⟨k + 1, by omega, by go_num, Step.out rfl, hbl⟩, by simp [intOf]; omega⟩
        · have HA := hid (always_false (N := D.net) (S := S) hlt HX.out.1 HX.out.2)
          go_wp2_with fail
          refine (Hh.out _ hbl).mono ?_
          rintro e w8 ⟨rfl, hb8⟩
          go_wp2_with fail
          go_ret
          exact ⟨ret_int (congrArg dn (by rw [HV.out, HA.out]; simp only [Bool.false_eq_true, if_false]; rw [Nat.min_eq_left hpl])), below_of hbl hz hb8⟩
        · go_wp2_with fail
          refine (Hh.out _ hbl).mono ?_
          rintro e w8 ⟨rfl, hb8⟩
          go_wp2_with fail
          exact ⟨⟨k + 1, by omega, by go_num, Step.out rfl, below_of hbl hz hb8⟩, by simp [intOf]; omega⟩
      · obtain rfl : k = 4 := by omega
        have HA := hid (always_true (N := D.net) (S := S) HN.out)
        have hsum : t + l < big := by have := hbig.out; omega
        have HV2 := hid (show latestV D.net S L i s = min pv (t + l) by rw [HV.out, HA.out]; simp only [if_true]; rw [Nat.min_eq_right (show t + l ≤ big by omega)])
        have hwt : IntKind.i64.wrap ((t : Int) + (l : Int)) = (t : Int) + (l : Int) := IntWalk.i64_in _ (by omega)
        have hwl : IntKind.i64.wrap (l : Int) = (l : Int) := IntWalk.i64_in _ (by omega)
        have CST := hid (show (t : Int) + (l : Int) = ((t + l : Nat) : Int) by omega)
        have q3 := cell_on hbl z2
        have q4 := cell_on hbl v0
        have Hq := hid (fun (X : Later wr) => Hl.out X.w (below_of hbl hz X.below))
        have hblt : cb < wr.heap.size := by have := hc.lt; omega
        have hb3' : b3 < wr.heap.size := by omega
        have hL9 := @later_cell wr
        by_cases hmb : pv < big
        · rw [dn_lt hmb]
          have e4 : decide ((pv : Int) < 0) = false := by rw [decide_eq_false_iff_not]; omega
          by_cases h5 : t + l < pv
          · have e5 : decide ((t : Int) + (l : Int) < (pv : Int)) = true := by rw [decide_eq_true_iff]; omega
            go_wp2_with fail
            refine wp_region_later (by kernel_rfl) (by kernel_rfl) ?_
            repeat (first | go_big_quiet_skip | (go_big_quiet_want; go_big_quiet_op; first | go_big_quiet_on | (apply Exists.intro; refine ⟨fun _ => ?_, ?_⟩; (go_at_call 39; exact quiet_same (Hq.out _)); go_big_quiet_on)))
            refine wpQuiet_nil ?_
            rintro ⟨w7, hb7⟩
            dsimp only
            go_wp2_with fail
            go_ret
            exact ⟨ret_int (by rw [HV2.out, Nat.min_eq_right (by omega), dn_lt hsum, CST.out]), below_of hbl hz hb7⟩
          · have e5 : decide ((t : Int) + (l : Int) < (pv : Int)) = false := by rw [decide_eq_false_iff_not]; omega
            go_wp2_with fail
            refine wp_region_later (by kernel_rfl) (by kernel_rfl) ?_
            repeat (first | go_big_quiet_skip | (go_big_quiet_want; go_big_quiet_op; first | go_big_quiet_on | (apply Exists.intro; refine ⟨fun _ => ?_, ?_⟩; (go_at_call 39; exact quiet_same (Hq.out _)); go_big_quiet_on)))
            refine wpQuiet_nil ?_
            rintro ⟨w7, hb7⟩
            dsimp only
            go_wp2_with fail
            go_ret
            exact ⟨ret_int (by rw [HV2.out, Nat.min_eq_left (by omega), dn_lt hmb]), below_of hbl hz hb7⟩
        · rw [dn_ge hmb]
          go_wp2_with fail
          refine wp_region_later (by kernel_rfl) (by kernel_rfl) ?_
          repeat (first | go_big_quiet_skip | (go_big_quiet_want; go_big_quiet_op; first | go_big_quiet_on | (apply Exists.intro; refine ⟨fun _ => ?_, ?_⟩; (go_at_call 39; exact quiet_same (Hq.out _)); go_big_quiet_on)))
          refine wpQuiet_nil ?_
          rintro ⟨w7, hb7⟩
          dsimp only
          go_wp2_with fail
          go_ret
          exact ⟨ret_int (by rw [HV2.out, Nat.min_eq_right (by omega), dn_lt hsum, CST.out]), below_of hbl hz hb7⟩
  · rw [dn_ge htb] at Hl
    have HV2 := hid (show latestV D.net S L i s = pv by
      rw [HV.out]
      split <;> omega)
    go_enter Try.func76, Try.ntmps76
    go_wp2_with fail
    refine Hp.out.mono ?_
    rintro e w1 ⟨rfl, hb1⟩
    have y3 := cell_on hb1 z3
    have y0 := cell_on hb1 n0
    go_wp2_with fail
    refine (Hl.out _ hb1).mono ?_
    rintro e w2 ⟨rfl, rfl⟩
    go_wp2_with fail
    go_ret
    exact ⟨ret_int (congrArg dn HV2.out.symm), hb1⟩
/-- A pass, as far as it has come. -/
structure Bst (F : (Nat → Nat) → Nat → Nat) (m : Nat) (E Ec : Nat → Nat) (ch : Bool) (y : Nat) : Prop where
  pre : ∀ z, F Ec z ≤ Ec z
  le : ∀ z, Ec z ≤ big
  bd : bounded Ec m
  st : (ch = false ∧ Ec = E ∧ ∀ z, z < y → E z = F E z) ∨ (ch = true ∧ sumE Ec m < sumE E m)
theorem Bst.start {F : (Nat → Nat) → Nat → Nat} {m : Nat} {E : Nat → Nat} (h1 : ∀ z, F E z ≤ E z) (h2 : ∀ z, E z ≤ big) (h3 : bounded E m) : Bst F m E E false 0 :=
  ⟨h1, h2, h3, .inl ⟨rfl, rfl, fun z hz => by omega⟩⟩
theorem Bst.skip {F : (Nat → Nat) → Nat → Nat} {m : Nat} {E Ec : Nat → Nat} {ch : Bool} {y : Nat} (h : Bst F m E Ec ch y) (he : F Ec y = Ec y) : Bst F m E Ec ch (y + 1) := by
  refine ⟨h.pre, h.le, h.bd, h.st.imp (fun ⟨h1, h2, h3⟩ => ⟨h1, h2, fun z hz => ?_⟩) id⟩
  rcases Nat.lt_or_ge z y with h4 | h4
  · exact h3 z h4
  · obtain rfl : z = y := by omega
    rw [← h2, he]
theorem Bst.set {F : (Nat → Nat) → Nat → Nat} {m : Nat} (hT : Tick F) (hs : Slow F m) {E Ec : Nat → Nat} {ch : Bool} {y : Nat} (h : Bst F m E Ec ch y) (hy : y < m) : Bst F m E (upd Ec y (F Ec y)) (ch || decide (F Ec y ≠ Ec y)) (y + 1) := by
  by_cases he : F Ec y = Ec y
  · rw [he, upd_same]
    simp only [ne_eq, not_true_eq_false, decide_false, Bool.or_false]
    exact h.skip he
  · have hlt : F Ec y < Ec y := by have := h.pre y; omega
    refine ⟨better_step hT h.pre y, fun z => ?_, bounded_step hs h.pre h.le h.bd hy, .inr ⟨by simp [he], ?_⟩⟩
    · unfold upd
      split
      · exact hT.le _ _
      · exact h.le z
    · have := sumE_upd Ec y (F Ec y) m
      rw [if_pos hy, if_pos hy] at this
      rcases h.st with ⟨_, h2, _⟩ | ⟨_, h2⟩
      · rw [← h2]; omega
      · omega
theorem Bst.few {F : (Nat → Nat) → Nat → Nat} {n : Nat} {E Ec : Nat → Nat} {ch : Bool} {y : Nat} (h : Bst F (4 * n) E Ec ch y) (hn : n ≤ 60) : Few Ec := by
  intro z hz
  have := h.bd z hz
  have := cntE_le Ec (4 * n)
  omega
theorem dn_eq {a b : Nat} (ha : a ≤ big) (hb : b ≤ big) : (dn a != dn b) = decide (a ≠ b) := by
  rw [Bool.eq_iff_iff]
  simp only [bne_iff_ne, ne_eq, decide_eq_true_eq]
  constructor
  · intro h e; exact h (by rw [e])
  · intro h e
    apply h
    unfold dn at e
    split at e <;> split at e <;> omega
theorem grown_of {w w1 : World} (row : Option Nat) (hb : Below w.heap.size w w1) : w.grownBy w1 row := ⟨hb.os, hb.tape, hb.output, hb.size, fun i hi _ => hb.block i hi⟩
theorem TkA.set {w : World} {g n : Nat} {E : Nat → Nat} (h : TkA w g n E) {i s : Nat} (hi : i < n) (hs : s < 4) (v : Nat) : TkA (w.setCell ⟨g, i * 4 + s, none⟩ (.int .i64 (dn v))) g n (upd E (4 * i + s) v) := by
  refine ⟨by simpa using h.lt, fun j k hj hk => ?_⟩
  by_cases e : j = i ∧ k = s
  · obtain ⟨rfl, rfl⟩ := e
    rw [upd_at]
    exact World.cell?_setCell_same _ _ _ (h.c j k hj hk)
  · rw [upd_ne _ _ (by omega), World.cell?_setCell_other _ _ _ _ (by intro x; simp only [Addr.mk.injEq] at x; omega)]
    exact h.c j k hj hk
theorem store_grown (w : World) (q j : Nat) (v : Value) : w.grownBy (w.setCell ⟨q, j, none⟩ v) (some q) :=
  ⟨rfl, rfl, rfl, by simp, fun k _ hk => heap_setCell_other w ⟨q, j, none⟩ k v (fun e => hk (by simp [e]))⟩
def Fz (w : World) (g : Nat) : Prop := ∀ j, w.frozen? ⟨g, j, none⟩ = false
theorem Fz.below {w w1 : World} {g B : Nat} (h : Fz w g) (hb : Below B w w1) (hB : g < B) : Fz w1 g := fun j => (hb.frozen (p := ⟨g, j, none⟩) hB).trans (h j)
theorem Fz.set {w : World} {g : Nat} (h : Fz w g) (a : Addr) (v : Value) : Fz (w.setCell a v) g := fun j => by rw [World.frozen?_setCell]; exact h j
structure Apart (g cb : Nat) (D : ClkD) : Prop where
  cb : cb ≠ g
  bb : D.bb ≠ g
  ap : 0 < D.xs.length → ∀ a, D.ap = some a → a.block ≠ g
  al : 0 < D.ps.length → ∀ a, D.al = some a → a.block ≠ g
  sa : 0 < D.ss.length → ∀ a, D.sa = some a → a.block ≠ g
  na : 0 < D.xs.length → ∀ a, D.na = some a → a.block ≠ g
theorem Apart.new {w : World} {cb g : Nat} {D : ClkD} (h : Clk w cb D) (hg : w.heap.size ≤ g) : Apart g cb D := by
  refine ⟨?_, ?_, fun hp a e => ?_, fun hp a e => ?_, fun hp a e => ?_, fun hp a e => ?_⟩
  · have := h.lt; omega
  · have := h.bd.lt; omega
  · obtain ⟨b, o, e2, hl, _⟩ := h.px.cells hp
    rw [e] at e2; cases e2; dsimp only; omega
  · obtain ⟨b, o, e2, hl, _⟩ := h.pu.cells hp
    rw [e] at e2; cases e2; dsimp only; omega
  · obtain ⟨b, o, e2, hl, _⟩ := h.sp.cells hp
    rw [e] at e2; cases e2; dsimp only; omega
  · obtain ⟨b, e2, hl, _⟩ := h.nr hp
    rw [e] at e2; cases e2; dsimp only; omega
theorem SlA.kept0 {α : Type} {enc : α → List Value} {n : Nat} {w w1 : World} {a : Option Addr} {xs : List α} {g : Nat} (h : SlA enc n w a xs) (hg : w.grownBy w1 (some g)) (hne : 0 < xs.length → ∀ b, a = some b → b.block ≠ g) : SlA enc n w1 a xs :=
  ⟨h.small, fun hp => by
    obtain ⟨b, o, e, hlt, hc⟩ := h.cells hp
    exact ⟨b, o, e, Nat.lt_of_lt_of_le hlt hg.size, fun i p hi j u hu => (hg.cell_far ⟨b, _, none⟩ hlt (by simpa using hne hp _ e)).trans (hc i p hi j u hu)⟩⟩
theorem Clk.kept {w w1 : World} {cb g : Nat} {D : ClkD} (h : Clk w cb D) (hg : w.grownBy w1 (some g)) (ha : Apart g cb D) : Clk w1 cb D := by
  have c : ∀ o v, w.cell? ⟨cb, o, none⟩ = some v → w1.cell? ⟨cb, o, none⟩ = some v := fun o v e => (hg.cell_far ⟨cb, o, none⟩ h.lt (by simpa using ha.cb)).trans e
  refine ⟨Nat.lt_of_lt_of_le h.lt hg.size, c _ _ h.c0, c _ _ h.c1, c _ _ h.c2, c _ _ h.c3, h.bd.kept hg (by simpa using ha.bb), h.px.kept0 hg ha.ap, h.pu.kept0 hg ha.al, h.sp.kept0 hg ha.sa, fun hp => ?_⟩
  obtain ⟨q, e, hl, hc⟩ := h.nr hp
  exact ⟨q, e, Nat.lt_of_lt_of_le hl hg.size, fun i s hi hs => (hg.cell_far ⟨q, _, none⟩ hl (by simpa using ha.na hp _ e)).trans (hc i s hi hs)⟩
/-- One of the clock's own turning cells is written. -/
theorem Clk.turn {w : World} {cb : Nat} {D : ClkD} (h : Clk w cb D) (o : Nat) (ho : 4 ≤ o) (v : Value) (h1 : D.bb ≠ cb) (ha : Apart cb (cb + 1) D) : Clk (w.setCell ⟨cb, o, none⟩ v) cb D := by
  have hg := store_grown w cb o v
  have c : ∀ q u, q < 4 → w.cell? ⟨cb, q, none⟩ = some u → (w.setCell ⟨cb, o, none⟩ v).cell? ⟨cb, q, none⟩ = some u := fun q u hq e => by
    rw [World.cell?_setCell_other _ _ _ _ (by intro x; simp only [Addr.mk.injEq] at x; omega)]
    exact e
  refine ⟨by simpa using h.lt, c _ _ (by omega) h.c0, c _ _ (by omega) h.c1, c _ _ (by omega) h.c2, c _ _ (by omega) h.c3, h.bd.kept hg (by simpa using h1), h.px.kept0 hg ha.ap, h.pu.kept0 hg ha.al, h.sp.kept0 hg ha.sa, fun hp => ?_⟩
  obtain ⟨q, e, hl, hc⟩ := h.nr hp
  exact ⟨q, e, by simpa using hl, fun i s hi hs => (hg.cell_far ⟨q, _, none⟩ hl (by simpa using ha.na hp _ e)).trans (hc i s hi hs)⟩
theorem TkA.kept {w w1 : World} {g0 g n : Nat} {E : Nat → Nat} (h : TkA w g0 n E) (hg : w.grownBy w1 (some g)) (hne : g0 ≠ g) : TkA w1 g0 n E :=
  ⟨Nat.lt_of_lt_of_le h.lt hg.size, fun i s hi hs => (hg.cell_far ⟨g0, _, none⟩ h.lt (by simpa using hne)).trans (h.c i s hi hs)⟩
set_option maxRecDepth 100000 in
set_option maxHeartbeats 1000000 in
theorem betterE_S (cb eg lg ec lc : Nat) (D : ClkD) (E L : Nat → Nat) (w : World) (hD : D.Ok) (hN : D.net.Ok) (hc : Clk w cb D) (ha : Apart eg cb D) (hne : lg ≠ eg)
    (k4 : w.cell? ⟨cb, 4, none⟩ = some (.slice (some ⟨eg, 0, none⟩) D.xs.length ec)) (k5 : w.cell? ⟨cb, 5, none⟩ = some (.slice (some ⟨lg, 0, none⟩) D.xs.length lc)) (hE : TkA w eg D.xs.length E) (hL : TkA w lg D.xs.length L)
    (hf : Fz w eg) (h1 : ∀ z, earlyF D.net L E z ≤ E z) (h2 : ∀ z, E z ≤ big) (h3 : bounded E (4 * D.xs.length)) :
    Calls Try.prog 57 #[.pointer (some ⟨cb, 0, none⟩), .bool false] w fun e w' => ∃ ch E', e = .returned (.bool ch) ∧ w.grownBy w' (some eg) ∧ Fz w' eg ∧ TkA w' eg D.xs.length E' ∧ Bst (earlyF D.net L) (4 * D.xs.length) E E' ch (4 * D.xs.length) := by
  have hn := hD.n
  have hT := early_tick hN L
  have hSl := early_slow hN L
  have hnn : D.net.n = D.xs.length := rfl
  rw [hnn] at hSl
  go_enter Try.func57, Try.ntmps57
  go_wp2_with fail
  go_loopw [5, 6] (fun cv iv wr => ∃ (ch : Bool) (k : Nat) (Ec : Nat → Nat), k ≤ D.xs.length ∧ cv = .bool ch ∧ iv = .int .i64 k ∧ w.grownBy wr (some eg) ∧ Fz wr eg ∧ TkA wr eg D.xs.length Ec ∧ Bst (earlyF D.net L) (4 * D.xs.length) E Ec ch (4 * k)) (fun _ iv _ => D.xs.length - (intOf iv).toNat)
  case atStart => exact ⟨false, 0, E, Nat.zero_le _, rfl, rfl, World.grownBy.refl _ _, hf, hE, Bst.start h1 h2 h3⟩
  case round =>
    obtain ⟨ch, k, Ec, hk, rfl, rfl, hg, hfz, hEc, hB⟩ := hrel
    have FZ := hid hfz
    clear hfz
    have z3 := (hc.kept hg ha).c3
    have HB := hid hB
    have HE := hid hEc
    clear hB hEc
    by_cases hlt : k < D.xs.length
    · have hd : decide ((k : Int) < (D.xs.length : Int)) = true := by rw [decide_eq_true_iff]; omega
      go_wp2_with fail
      go_loopw [5, 7] (fun cv sv wr => ∃ (ch : Bool) (s : Nat) (Ec : Nat → Nat), s ≤ 4 ∧ cv = .bool ch ∧ sv = .int .i64 s ∧ w.grownBy wr (some eg) ∧ Fz wr eg ∧ TkA wr eg D.xs.length Ec ∧ Bst (earlyF D.net L) (4 * D.xs.length) E Ec ch (4 * k + s)) (fun _ sv _ => 4 - (intOf sv).toNat)
      case atStart => exact ⟨ch, 0, Ec, Nat.zero_le _, rfl, rfl, hg, FZ.out, HE.out, HB.out⟩
      case round =>
        obtain ⟨ch, s, Ec, hs, rfl, rfl, hg, hfz, hEc, hB⟩ := hrel
        have FZ := hid hfz
        clear hfz
        have HB := hid hB
        have HE := hid hEc
        clear hB hEc
        have hk9 := hc.kept hg ha
        by_cases hs4 : s < 4
        · obtain ⟨b1, o1, hap, hb1, hc1⟩ := hk9.px.cells (by omega)
          have e1 : D.xs[k]? = some D.xs[k] := List.getElem?_eq_getElem hlt
          have okp := hD.pc _ (List.getElem_mem hlt)
          have HC := hid (show D.net.can k s = decide (0 ≤ hitsG D.xs[k].k D.xs[k].t s) by simp only [ClkD.net, netOf]; rw [e1])
          have f2 : wr.cell? ⟨b1, o1 + k * 5 + 2, none⟩ = some (.int .i8 D.xs[k].k) := hc1 k _ e1 2 _ rfl
          have f3 : wr.cell? ⟨b1, o1 + k * 5 + 3, none⟩ = some (.int .i8 D.xs[k].t) := hc1 k _ e1 3 _ rfl
          generalize D.xs[k] = p at *
          have Hh := hid (hits_S b1 (o1 + k * 5) p.k p.t s wr okp.2.2.1 okp.2.2.2.1 (by omega) hb1 f2 f3)
          generalize hitsG p.k p.t s = v at *
          have z0 := hk9.c0
          obtain ⟨g9, g0, g1, g2⟩ := hk9.bd
          rw [hap] at g2
          have hki : (k : Int) < (D.xs.length : Int) := by omega
          clear e1 hc1 okp f2 f3
          by_cases hv : v < 0
          · have hcan : D.net.can k s = false := by rw [HC.out, decide_eq_false_iff_not]; omega
            have HS := hid (HB.out.skip (by
              rw [early_at hlt hs4, if_neg (by rw [hcan]; simp)]
              have h5 := HB.out.pre (4 * k + s)
              have h6 := HB.out.le (4 * k + s)
              rw [early_at hlt hs4, if_neg (by rw [hcan]; simp)] at h5
              omega))
            have hd9 : decide (v < 0) = true := by rw [decide_eq_true_iff]; exact hv
            go_wp2_with fail
            refine Hh.out.mono ?_
            rintro e w1 ⟨rfl, hb9⟩
            go_wp2_with fail
            exact ⟨⟨ch, s + 1, Ec, by omega, rfl, by go_num, hg.trans (grown_of _ hb9), FZ.out.below hb9 HE.out.lt, HE.out.below hb9 HE.out.lt, HS.out⟩, by simp [intOf]; omega⟩
          · have hcan : D.net.can k s = true := by rw [HC.out, decide_eq_true_iff]; omega
            have hd9 : decide (v < 0) = false := by rw [decide_eq_false_iff_not]; exact hv
            have hF : earlyF D.net L Ec (4 * k + s) = soonV D.net L Ec k s := by rw [early_at hlt hs4, if_pos hcan]
            have HS := hid (HB.out.set hT hSl (show 4 * k + s < 4 * D.xs.length by omega))
            rw [hF] at HS
            have hle : soonV D.net L Ec k s ≤ big := by rw [← hF]; exact hT.le _ _
            have few := HB.out.few hn
            have c4 : wr.cell? ⟨cb, 4, none⟩ = some (.slice (some ⟨eg, 0, none⟩) D.xs.length ec) := (hg.cell_far ⟨cb, _, none⟩ hc.lt (by simpa using ha.cb)).trans k4
            have c5 : wr.cell? ⟨cb, 5, none⟩ = some (.slice (some ⟨lg, 0, none⟩) D.xs.length lc) := (hg.cell_far ⟨cb, _, none⟩ hc.lt (by simpa using ha.cb)).trans k5
            have hL9 := hL.kept hg hne
            have Hs := hid (fun W (hB : Below wr.heap.size wr W) => soon_S cb eg lg ec lc D Ec L k s W hD (hk9.below hB) hlt hs4 (cell_on hB c4) (cell_on hB c5) (HE.out.below hB HE.out.lt) (hL9.below hB hL9.lt) few)
            obtain ⟨t, ht⟩ : ∃ t, soonV D.net L Ec k s = t := ⟨_, rfl⟩
            rw [ht] at HS Hs hle
            have hne9 := hid (dn_eq hle (HB.out.le (4 * k + s)))
            have ev := HE.out.c k s hlt hs4
            have hs5 : (s : Int) < 4 := by omega
            have HG := hid hg
            have hfz9 : ∀ W, Below wr.heap.size wr W → W.frozen? ⟨eg, k * 4 + s, none⟩ = false := fun W h => FZ.out.below h HE.out.lt _
            clear ht hF few hcan HC g9 g0 g1 hg
            go_wp2_with fail
            refine Hh.out.mono ?_
            rintro e w1 ⟨rfl, hb9⟩
            have q0 := cell_on hb9 z0
            have q2 := cell_on hb9 c4
            go_wp2_with fail
            refine (Hs.out _ hb9).mono ?_
            rintro e w2 ⟨rfl, hb8⟩
            have T2 := below_then hb9 hb8
            have r2 := cell_on T2 c4
            have r4 := cell_on T2 ev
            have rf := hfz9 _ T2
            have T3 := HE.out.below T2 HE.out.lt
            have TS := hid (T3.set hlt hs4 t)
            have FS := hid ((FZ.out.below T2 HE.out.lt).set ⟨eg, k * 4 + s, none⟩ (.int .i64 (dn t)))
            have GS := hid ((HG.out.trans (grown_of _ T2)).trans (store_grown w2 eg (k * 4 + s) (.int .i64 (dn t))))
            clear T3
            cases ch
            · obtain ⟨d, hd⟩ : ∃ d, decide (t ≠ Ec (4 * k + s)) = d := ⟨_, rfl⟩
              have hdd : (dn t != dn (Ec (4 * k + s))) = d := hne9.out.trans hd
              rw [hd] at HS
              clear hd
              go_wp2_with fail
              exact ⟨⟨d, s + 1, _, by omega, rfl, by go_num, GS.out, FS.out, TS.out, HS.out⟩, by simp [intOf]; omega⟩
            · go_wp2_with fail
              exact ⟨⟨true, s + 1, _, by omega, rfl, by go_num, GS.out, FS.out, TS.out, HS.out⟩, by simp [intOf]; omega⟩
        · obtain rfl : s = 4 := by omega
          go_wp2_with fail
          exact ⟨⟨ch, k + 1, Ec, by omega, rfl, by go_num, hg, FZ.out, HE.out, HB.out⟩, by simp [intOf]; omega⟩
    · obtain rfl : k = D.xs.length := by omega
      have hd : decide ((D.xs.length : Int) < (D.xs.length : Int)) = false := by rw [decide_eq_false_iff_not]; omega
      go_wp2_with fail
      go_ret
      exact ⟨ch, Ec, rfl, hg, FZ.out, HE.out, HB.out⟩
theorem SdA.kept {w w1 : World} {g0 g n : Nat} {S : Nat → Nat → Bool} (h : SdA w g0 n S) (hg : w.grownBy w1 (some g)) (hne : g0 ≠ g) : SdA w1 g0 n S :=
  ⟨Nat.lt_of_lt_of_le h.lt hg.size, fun i s hi hs => (hg.cell_far ⟨g0, _, none⟩ h.lt (by simpa using hne)).trans (h.c i s hi hs)⟩
set_option maxRecDepth 100000 in
set_option maxHeartbeats 1000000 in
theorem betterL_S (cb eg sg ec sc : Nat) (D : ClkD) (E : Nat → Nat) (S : Nat → Nat → Bool) (w : World) (hD : D.Ok) (hN : D.net.Ok) (hc : Clk w cb D) (ha : Apart eg cb D) (hne : sg ≠ eg)
    (k4 : w.cell? ⟨cb, 5, none⟩ = some (.slice (some ⟨eg, 0, none⟩) D.xs.length ec)) (k5 : w.cell? ⟨cb, 6, none⟩ = some (.slice (some ⟨sg, 0, none⟩) D.xs.length sc)) (hE : TkA w eg D.xs.length E) (hL : SdA w sg D.xs.length S)
    (hf : Fz w eg) (h1 : ∀ z, lateF D.net S E z ≤ E z) (h2 : ∀ z, E z ≤ big) (h3 : bounded E (4 * D.xs.length)) :
    Calls Try.prog 57 #[.pointer (some ⟨cb, 0, none⟩), .bool true] w fun e w' => ∃ ch E', e = .returned (.bool ch) ∧ w.grownBy w' (some eg) ∧ Fz w' eg ∧ TkA w' eg D.xs.length E' ∧ Bst (lateF D.net S) (4 * D.xs.length) E E' ch (4 * D.xs.length) := by
  have hn := hD.n
  have hT := late_tick hN S
  have hSl := late_slow hN S
  have hnn : D.net.n = D.xs.length := rfl
  rw [hnn] at hSl
  go_enter Try.func57, Try.ntmps57
  go_wp2_with fail
  go_loopw [5, 6] (fun cv iv wr => ∃ (ch : Bool) (k : Nat) (Ec : Nat → Nat), k ≤ D.xs.length ∧ cv = .bool ch ∧ iv = .int .i64 k ∧ w.grownBy wr (some eg) ∧ Fz wr eg ∧ TkA wr eg D.xs.length Ec ∧ Bst (lateF D.net S) (4 * D.xs.length) E Ec ch (4 * k)) (fun _ iv _ => D.xs.length - (intOf iv).toNat)
  case atStart => exact ⟨false, 0, E, Nat.zero_le _, rfl, rfl, World.grownBy.refl _ _, hf, hE, Bst.start h1 h2 h3⟩
  case round =>
    obtain ⟨ch, k, Ec, hk, rfl, rfl, hg, hfz, hEc, hB⟩ := hrel
    have FZ := hid hfz
    clear hfz
    have z3 := (hc.kept hg ha).c3
    have HB := hid hB
    have HE := hid hEc
    clear hB hEc
    by_cases hlt : k < D.xs.length
    · have hd : decide ((k : Int) < (D.xs.length : Int)) = true := by rw [decide_eq_true_iff]; omega
      go_wp2_with fail
      go_loopw [5, 7] (fun cv sv wr => ∃ (ch : Bool) (s : Nat) (Ec : Nat → Nat), s ≤ 4 ∧ cv = .bool ch ∧ sv = .int .i64 s ∧ w.grownBy wr (some eg) ∧ Fz wr eg ∧ TkA wr eg D.xs.length Ec ∧ Bst (lateF D.net S) (4 * D.xs.length) E Ec ch (4 * k + s)) (fun _ sv _ => 4 - (intOf sv).toNat)
      case atStart => exact ⟨ch, 0, Ec, Nat.zero_le _, rfl, rfl, hg, FZ.out, HE.out, HB.out⟩
      case round =>
        obtain ⟨ch, s, Ec, hs, rfl, rfl, hg, hfz, hEc, hB⟩ := hrel
        have FZ := hid hfz
        clear hfz
        have HB := hid hB
        have HE := hid hEc
        clear hB hEc
        have hk9 := hc.kept hg ha
        by_cases hs4 : s < 4
        · obtain ⟨b1, o1, hap, hb1, hc1⟩ := hk9.px.cells (by omega)
          have e1 : D.xs[k]? = some D.xs[k] := List.getElem?_eq_getElem hlt
          have okp := hD.pc _ (List.getElem_mem hlt)
          have HC := hid (show D.net.can k s = decide (0 ≤ hitsG D.xs[k].k D.xs[k].t s) by simp only [ClkD.net, netOf]; rw [e1])
          have f2 : wr.cell? ⟨b1, o1 + k * 5 + 2, none⟩ = some (.int .i8 D.xs[k].k) := hc1 k _ e1 2 _ rfl
          have f3 : wr.cell? ⟨b1, o1 + k * 5 + 3, none⟩ = some (.int .i8 D.xs[k].t) := hc1 k _ e1 3 _ rfl
          generalize D.xs[k] = p at *
          have Hh := hid (hits_S b1 (o1 + k * 5) p.k p.t s wr okp.2.2.1 okp.2.2.2.1 (by omega) hb1 f2 f3)
          generalize hitsG p.k p.t s = v at *
          have z0 := hk9.c0
          obtain ⟨g9, g0, g1, g2⟩ := hk9.bd
          rw [hap] at g2
          have hki : (k : Int) < (D.xs.length : Int) := by omega
          clear e1 hc1 okp f2 f3
          by_cases hv : v < 0
          · have hcan : D.net.can k s = false := by rw [HC.out, decide_eq_false_iff_not]; omega
            have HS := hid (HB.out.skip (by
              rw [late_at hlt hs4, if_neg (by rw [hcan]; simp)]
              have h5 := HB.out.pre (4 * k + s)
              have h6 := HB.out.le (4 * k + s)
              rw [late_at hlt hs4, if_neg (by rw [hcan]; simp)] at h5
              omega))
            have hd9 : decide (v < 0) = true := by rw [decide_eq_true_iff]; exact hv
            go_wp2_with fail
            refine Hh.out.mono ?_
            rintro e w1 ⟨rfl, hb9⟩
            go_wp2_with fail
            exact ⟨⟨ch, s + 1, Ec, by omega, rfl, by go_num, hg.trans (grown_of _ hb9), FZ.out.below hb9 HE.out.lt, HE.out.below hb9 HE.out.lt, HS.out⟩, by simp [intOf]; omega⟩
          · have hcan : D.net.can k s = true := by rw [HC.out, decide_eq_true_iff]; omega
            have hd9 : decide (v < 0) = false := by rw [decide_eq_false_iff_not]; exact hv
            have hF : lateF D.net S Ec (4 * k + s) = latestV D.net S Ec k s := by rw [late_at hlt hs4, if_pos hcan]
            have HS := hid (HB.out.set hT hSl (show 4 * k + s < 4 * D.xs.length by omega))
            rw [hF] at HS
            have hle : latestV D.net S Ec k s ≤ big := by rw [← hF]; exact hT.le _ _
            have few := HB.out.few hn
            have c4 : wr.cell? ⟨cb, 5, none⟩ = some (.slice (some ⟨eg, 0, none⟩) D.xs.length ec) := (hg.cell_far ⟨cb, _, none⟩ hc.lt (by simpa using ha.cb)).trans k4
            have c5 : wr.cell? ⟨cb, 6, none⟩ = some (.slice (some ⟨sg, 0, none⟩) D.xs.length sc) := (hg.cell_far ⟨cb, _, none⟩ hc.lt (by simpa using ha.cb)).trans k5
            have hL9 := hL.kept hg hne
            have Hs := hid (fun W (hB : Below wr.heap.size wr W) => latest_S cb sg eg sc ec D S Ec k s W hD (hk9.below hB) hlt hs4 (cell_on hB c5) (cell_on hB c4) (hL9.below hB hL9.lt) (HE.out.below hB HE.out.lt) few)
            obtain ⟨t, ht⟩ : ∃ t, latestV D.net S Ec k s = t := ⟨_, rfl⟩
            rw [ht] at HS Hs hle
            have hne9 := hid (dn_eq hle (HB.out.le (4 * k + s)))
            have ev := HE.out.c k s hlt hs4
            have hs5 : (s : Int) < 4 := by omega
            have HG := hid hg
            have hfz9 : ∀ W, Below wr.heap.size wr W → W.frozen? ⟨eg, k * 4 + s, none⟩ = false := fun W h => FZ.out.below h HE.out.lt _
            clear ht hF few hcan HC g9 g0 g1 hg
            go_wp2_with fail
            refine Hh.out.mono ?_
            rintro e w1 ⟨rfl, hb9⟩
            have q0 := cell_on hb9 z0
            have q2 := cell_on hb9 c4
            go_wp2_with fail
            refine (Hs.out _ hb9).mono ?_
            rintro e w2 ⟨rfl, hb8⟩
            have T2 := below_then hb9 hb8
            have r2 := cell_on T2 c4
            have r4 := cell_on T2 ev
            have rf := hfz9 _ T2
            have T3 := HE.out.below T2 HE.out.lt
            have TS := hid (T3.set hlt hs4 t)
            have FS := hid ((FZ.out.below T2 HE.out.lt).set ⟨eg, k * 4 + s, none⟩ (.int .i64 (dn t)))
            have GS := hid ((HG.out.trans (grown_of _ T2)).trans (store_grown w2 eg (k * 4 + s) (.int .i64 (dn t))))
            clear T3
            cases ch
            · obtain ⟨d, hd⟩ : ∃ d, decide (t ≠ Ec (4 * k + s)) = d := ⟨_, rfl⟩
              have hdd : (dn t != dn (Ec (4 * k + s))) = d := hne9.out.trans hd
              rw [hd] at HS
              clear hd
              go_wp2_with fail
              exact ⟨⟨d, s + 1, _, by omega, rfl, by go_num, GS.out, FS.out, TS.out, HS.out⟩, by simp [intOf]; omega⟩
            · go_wp2_with fail
              exact ⟨⟨true, s + 1, _, by omega, rfl, by go_num, GS.out, FS.out, TS.out, HS.out⟩, by simp [intOf]; omega⟩
        · obtain rfl : s = 4 := by omega
          go_wp2_with fail
          exact ⟨⟨ch, k + 1, Ec, by omega, rfl, by go_num, hg, FZ.out, HE.out, HB.out⟩, by simp [intOf]; omega⟩
    · obtain rfl : k = D.xs.length := by omega
      have hd : decide ((D.xs.length : Int) < (D.xs.length : Int)) = false := by rw [decide_eq_false_iff_not]; omega
      go_wp2_with fail
      go_ret
      exact ⟨ch, Ec, rfl, hg, FZ.out, HE.out, HB.out⟩
end Go.Proofs.Ytnabedhhflfepaa
