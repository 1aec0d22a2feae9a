/-
  A board that is right; the reference's answers to an accident and to the worst one.
  Conditions: none beyond those of the types.
-/
import Derived.Test.YtmjlnhhgpdcobaaRunS3
import Derived.Test.YtmjlnhhgpdcobaaGaps
namespace Go.Proofs.Ytmjlnhhgpdcobaa
open Go.RowKit
set_option linter.unusedSimpArgs false
set_option linter.unusedVariables false

theorem bpcs_of {wi hi : Int} {xs : List Pc} (h : bdOk wi hi xs = true) : ∀ p ∈ xs, pcOk p = true := by
  unfold bdOk at h
  simp only [Bool.and_eq_true] at h
  obtain ⟨_, _, _, h⟩ := h
  rw [List.all_eq_true] at h
  intro p hp
  obtain ⟨k, hk, e⟩ := List.mem_iff_getElem.1 hp
  have := h k (List.mem_range.2 hk)
  unfold okAt at this
  rw [List.getElem?_eq_getElem hk, e] at this
  simp only [Bool.and_eq_true] at this
  exact this.1
theorem bone_of {wi hi : Int} {xs : List Pc} (h : bdOk wi hi xs = true) : ∀ (i j : Nat) p q, xs[i]? = some p → xs[j]? = some q → p.x = q.x → p.y = q.y → i = j := by
  unfold bdOk at h
  simp only [Bool.and_eq_true] at h
  obtain ⟨_, _, _, h⟩ := h
  rw [List.all_eq_true] at h
  have key : ∀ (i j : Nat) p q, xs[i]? = some p → xs[j]? = some q → p.x = q.x → p.y = q.y → ¬ i < j := by
    intro i j p q hp hq hx hy hlt
    have hj := (List.getElem?_eq_some_iff.1 hq).1
    have := h j (List.mem_range.2 hj)
    unfold okAt at this
    rw [hq] at this
    simp only [Bool.and_eq_true, Bool.not_eq_true'] at this
    have h2 := this.2.2
    rw [List.any_eq_false] at h2
    refine h2 p ?_ (by unfold atC; simp [hx, hy])
    obtain ⟨hi', he⟩ := List.getElem?_eq_some_iff.1 hp
    exact List.mem_take_iff_getElem.2 ⟨i, by omega, he⟩
  intro i j p q hp hq hx hy
  have a := key i j p q hp hq hx hy
  have b := key j i q p hq hp hx.symm hy.symm
  omega
theorem inB_iff {n low high : Int} : inB n low high = true ↔ low ≤ n ∧ n ≤ high := by
  unfold inB
  simp
theorem bcells_of {wi hi : Int} {xs : List Pc} (h : bdOk wi hi xs = true) : ∀ q ∈ xs, cellIn q.x q.y 24 24 = true := by
  intro q hq
  have := bpcs_of h q hq
  unfold pcOk at this
  simp only [Bool.and_eq_true] at this
  exact this.2.2.2
theorem bpc_nums {p : Pc} (h : pcOk p = true) : (0 ≤ p.x ∧ p.x ≤ 23) ∧ (0 ≤ p.y ∧ p.y ≤ 23) ∧ (0 ≤ p.k ∧ p.k ≤ 5) ∧ (0 ≤ p.t ∧ p.t ≤ 3) ∧ (1 ≤ p.d ∧ p.d ≤ 9) := by
  unfold pcOk cellIn at h
  simp only [Bool.and_eq_true, inB_iff] at h
  omega
theorem brd_of {wi hi : Int} {xs : List Pc} (h : bdOk wi hi xs = true) : BrdOk xs := by
  have hn : xs.length ≤ 200 := by
    unfold bdOk at h
    simp only [Bool.and_eq_true, decide_eq_true_eq] at h
    exact h.2.2.1
  exact ⟨hn, fun p hp => bpc_nums (bpcs_of h p hp), bone_of h⟩
theorem built_zero {wi hi : Int} {xs : List Pc} (h : builtG wi hi xs = 0) : BrdOk xs ∧ xs.length ≤ 40 := by
  unfold builtG at h
  split at h
  · rename_i hb
    split at h
    · cases h
    · exact ⟨brd_of hb, by omega⟩
  · cases h
theorem built_three (wi hi : Int) (xs : List Pc) : builtG wi hi xs = 0 ∨ builtG wi hi xs = 1 ∨ builtG wi hi xs = 3 := by
  unfold builtG
  split
  · split <;> simp
  · simp
def AccidentsOfG (wi hi : Int) (xs : List Pc) (i : Int) : Int × Int := if builtG wi hi xs = 0 then (if inB i 0 ((xs.length : Int) - 1) = true then ((worstA xs i.toNat).2, 0) else (0, 2)) else (0, builtG wi hi xs)
def WorstAccidentG (wi hi : Int) (xs : List Pc) : Int × Int × Int × Int := if builtG wi hi xs = 0 then (if xs.length = 0 then (0, 0, 0, 6) else ((worstG xs).1, (worstG xs).2.1, (worstG xs).2.2, 0)) else (0, 0, 0, builtG wi hi xs)
theorem AccidentsOf_S (w : World) (wi hi : Int) (wl : -128 ≤ wi) (wu : wi ≤ 127) (hl : -128 ≤ hi) (hu : hi ≤ 127) (a : Option Addr) (c : Nat) (xs : List Pc) (h : SlA Pc.enc 5 w a xs) (_ : a = none → c = 0) (ok : ∀ p ∈ xs, p.Ok) (_ : xs.length ≤ 1048576) (i : Int) (il : -9223372036854775808 ≤ i) (iu : i ≤ 9223372036854775807) :
    Calls Try.prog 6 #[.agg #[.int .i8 wi, .int .i8 hi, .slice a xs.length c], .int .i64 i] w fun e w' => e = .returned (.tuple #[.int .i64 (AccidentsOfG wi hi xs i).1, .int .i64 (AccidentsOfG wi hi xs i).2]) ∧ Below w.heap.size w w' := by
  obtain ⟨W0, hW0⟩ : ∃ W, W = w.alloc (.cells #[.int .i8 wi, .int .i8 hi, .slice a xs.length c] 31) := ⟨_, rfl⟩
  have B0 : Below w.heap.size w W0 := by rw [hW0]; exact (Below.refl _ _).alloc (Nat.le_refl _) _
  have hbd : BdA W0 w.heap.size wi hi a xs.length c := by rw [hW0]; exact ⟨by simp, by simp [go_sem], by simp [go_sem], by simp [go_sem]⟩
  have HAs := hid (asked7_S w.heap.size wi hi a c xs W0 ⟨wl, wu, hl, hu⟩ hbd (h.below B0) ok)
  have HIn := hid (fun W => in_S i 0 ((xs.length : Int) - 1) W)
  have sa := h.small
  have k2 := hid (fun W (hB : Below W0.heap.size W0 W) => (hbd.below hB hbd.lt).c2)
  have wi1 : IntKind.i64.wrap ((xs.length : Int) - 1) = (xs.length : Int) - 1 := IntWalk.i64_in _ (by omega)
  have HB0 := hid B0
  rcases built_three wi hi xs with hb | hb | hb
  · obtain ⟨hB, hn⟩ := built_zero hb
    have HCo := hid (fun (j : Nat) (hj : j < xs.length) W (hB2 : Below W0.heap.size W0 W) => costP_S w.heap.size wi hi a c xs j W hB (by omega) (hbd.below hB2 hbd.lt) ((h.below B0).below hB2) hj)
    rw [hb] at HAs
    cases hin : inB i 0 ((xs.length : Int) - 1) with
    | false =>
      have HG := hid (show AccidentsOfG wi hi xs i = (0, 2) by unfold AccidentsOfG; rw [if_pos hb, hin]; rfl)
      rw [hin] at HIn
      clear B0 hbd h hb hin
      go_enter Try.func6, Try.ntmps6
      go_wp2_with fail
      rw [← hW0]
      clear hW0
      refine HAs.out.mono ?_
      rintro e w1 ⟨rfl, hb1⟩
      have c2 := k2.out _ hb1
      have HB1 := hid (below_of HB0.out HB0.out.size hb1)
      clear hb1
      go_wp2_with fail
      refine (HIn.out _).mono ?_
      rintro e w2 ⟨rfl, rfl⟩
      go_wp2_with fail
      refine bodyPost_ret (v := .tuple #[.int .i64 0, .int .i64 2]) (by simp [results, Try.results6, go_sem]) rfl ?_
      exact ⟨by rw [HG.out], HB1.out⟩
    | true =>
      have HG := hid (show AccidentsOfG wi hi xs i = ((worstA xs i.toNat).2, 0) by unfold AccidentsOfG; rw [if_pos hb, hin]; rfl)
      rw [hin] at HIn
      have hi2 : 0 ≤ i ∧ i ≤ (xs.length : Int) - 1 := by simpa [inB] using hin
      obtain ⟨j, rfl⟩ : ∃ j : Nat, i = j := ⟨i.toNat, by omega⟩
      rw [Int.toNat_natCast] at HG
      have HC := hid (HCo.out j (by omega))
      clear B0 hbd h hb hin
      go_enter Try.func6, Try.ntmps6
      go_wp2_with fail
      rw [← hW0]
      clear hW0
      refine HAs.out.mono ?_
      rintro e w1 ⟨rfl, hb1⟩
      have c2 := k2.out _ hb1
      have HB1 := hid hb1
      clear hb1
      go_wp2_with fail
      refine (HIn.out _).mono ?_
      rintro e w2 ⟨rfl, rfl⟩
      go_wp2_with fail
      refine (HC.out _ HB1.out).mono ?_
      rintro e w3 ⟨rfl, hb3⟩
      have HB3 := hid (below_of (below_of HB0.out HB0.out.size HB1.out) (by have := HB0.out.size; have := HB1.out.size; omega) hb3)
      clear hb3
      go_wp2_with fail
      refine bodyPost_ret (v := .tuple #[.int .i64 (worstA xs j).2, .int .i64 0]) (by simp [results, Try.results6, go_sem]) rfl ?_
      exact ⟨by rw [HG.out], HB3.out⟩
  · have HG := hid (show AccidentsOfG wi hi xs i = (0, builtG wi hi xs) by unfold AccidentsOfG; rw [if_neg (by rw [hb]; decide)])
    rw [hb] at HAs HG
    clear B0 hbd h hb
    go_enter Try.func6, Try.ntmps6
    go_wp2_with fail
    rw [← hW0]
    clear hW0
    refine HAs.out.mono ?_
    rintro e w1 ⟨rfl, hb1⟩
    have HB1 := hid (below_of HB0.out HB0.out.size hb1)
    clear hb1
    go_wp2_with fail
    refine bodyPost_ret (v := .tuple #[.int .i64 0, .int .i64 1]) (by simp [results, Try.results6, go_sem]) rfl ?_
    exact ⟨by rw [HG.out], HB1.out⟩
  · have HG := hid (show AccidentsOfG wi hi xs i = (0, builtG wi hi xs) by unfold AccidentsOfG; rw [if_neg (by rw [hb]; decide)])
    rw [hb] at HAs HG
    clear B0 hbd h hb
    go_enter Try.func6, Try.ntmps6
    go_wp2_with fail
    rw [← hW0]
    clear hW0
    refine HAs.out.mono ?_
    rintro e w1 ⟨rfl, hb1⟩
    have HB1 := hid (below_of HB0.out HB0.out.size hb1)
    clear hb1
    go_wp2_with fail
    refine bodyPost_ret (v := .tuple #[.int .i64 0, .int .i64 3]) (by simp [results, Try.results6, go_sem]) rfl ?_
    exact ⟨by rw [HG.out], HB1.out⟩
theorem WorstAccident_S (w : World) (wi hi : Int) (wl : -128 ≤ wi) (wu : wi ≤ 127) (hl : -128 ≤ hi) (hu : hi ≤ 127) (a : Option Addr) (c : Nat) (xs : List Pc) (h : SlA Pc.enc 5 w a xs) (_ : a = none → c = 0) (ok : ∀ p ∈ xs, p.Ok) (_ : xs.length ≤ 1048576) :
    Calls Try.prog 10 #[.agg #[.int .i8 wi, .int .i8 hi, .slice a xs.length c]] w fun e w' => e = .returned (.tuple #[.int .i64 (WorstAccidentG wi hi xs).1, .int .i64 (WorstAccidentG wi hi xs).2.1, .int .i64 (WorstAccidentG wi hi xs).2.2.1, .int .i64 (WorstAccidentG wi hi xs).2.2.2]) ∧ Below w.heap.size w w' := by
  obtain ⟨W0, hW0⟩ : ∃ W, W = w.alloc (.cells #[.int .i8 wi, .int .i8 hi, .slice a xs.length c] 31) := ⟨_, rfl⟩
  have B0 : Below w.heap.size w W0 := by rw [hW0]; exact (Below.refl _ _).alloc (Nat.le_refl _) _
  have hbd : BdA W0 w.heap.size wi hi a xs.length c := by rw [hW0]; exact ⟨by simp, by simp [go_sem], by simp [go_sem], by simp [go_sem]⟩
  have HAs := hid (asked7_S w.heap.size wi hi a c xs W0 ⟨wl, wu, hl, hu⟩ hbd (h.below B0) ok)
  have k2 := hid (fun W (hB : Below W0.heap.size W0 W) => (hbd.below hB hbd.lt).c2)
  have HB0 := hid B0
  rcases built_three wi hi xs with hb | hb | hb
  · obtain ⟨hB, hn⟩ := built_zero hb
    have HCo := hid (fun (j : Nat) (hj : j < xs.length) W (hB2 : Below W0.heap.size W0 W) => costP_S w.heap.size wi hi a c xs j W hB (by omega) (hbd.below hB2 hbd.lt) ((h.below B0).below hB2) hj)
    rw [hb] at HAs
    by_cases hz : xs.length = 0
    · have HG := hid (show WorstAccidentG wi hi xs = (0, 0, 0, 6) by unfold WorstAccidentG; rw [if_pos hb, if_pos hz])
      have he : ((xs.length : Int) == 0) = true := by rw [beq_iff_eq]; omega
      have he2 : (xs.length == 0) = true := by rw [beq_iff_eq]; exact hz
      clear hz
      clear B0 hbd h hb
      go_enter Try.func10, Try.ntmps10
      go_wp2_with fail
      rw [← hW0]
      clear hW0
      refine HAs.out.mono ?_
      rintro e w1 ⟨rfl, hb1⟩
      have c2 := k2.out _ hb1
      have HB1 := hid (below_of HB0.out HB0.out.size hb1)
      clear hb1
      go_wp2_with fail
      refine bodyPost_ret (v := .tuple #[.int .i64 0, .int .i64 0, .int .i64 0, .int .i64 6]) (by simp [results, Try.results10, go_sem]) rfl ?_
      exact ⟨by rw [HG.out], HB1.out⟩
    · have HG := hid (show WorstAccidentG wi hi xs = ((pieceR xs xs.length).1, (pieceR xs xs.length).2.1, (pieceR xs xs.length).2.2, 0) by unfold WorstAccidentG; rw [if_pos hb, if_neg hz, pieceR_eq xs xs.length (by omega)]; rfl)
      have he : ((xs.length : Int) == 0) = false := by rw [beq_eq_false_iff_ne]; omega
      have he2 : (xs.length == 0) = false := by rw [beq_eq_false_iff_ne]; exact hz
      clear B0 hbd h hb
      go_enter Try.func10, Try.ntmps10
      go_wp2_with fail
      rw [← hW0]
      clear hW0
      refine HAs.out.mono ?_
      rintro e w1 ⟨rfl, hb1⟩
      have c2 := k2.out _ hb1
      have HB1 := hid hb1
      clear hb1
      go_wp2_with fail
      go_loopw [7, 8, 9, 10] (fun pv sv mv iv wr => ∃ k : Nat, k ≤ xs.length ∧ iv = .int .i64 k ∧ pv = .int .i64 (pieceR xs k).1 ∧ sv = .int .i64 (pieceR xs k).2.1 ∧ mv = .int .i64 (pieceR xs k).2.2 ∧ Below W0.heap.size W0 wr) (fun _ _ _ iv _ => xs.length - (intOf iv).toNat)
      case atStart => exact ⟨0, Nat.zero_le _, rfl, rfl, rfl, rfl, HB1.out⟩
      case round =>
        obtain ⟨k, hk, rfl, rfl, rfl, rfl, hbl⟩ := hrel
        have c3 := k2.out _ hbl
        have HBL := hid hbl
        clear hbl c2
        by_cases hlt : k < xs.length
        · have hd : decide ((k : Int) < (xs.length : Int)) = true := by rw [decide_eq_true_iff]; omega
          have HC := hid (HCo.out k hlt)
          have HN := hid (show pieceR xs (k + 1) = if (pieceR xs k).2.2 < (worstA xs k).2 then ((k : Int), (worstA xs k).1, (worstA xs k).2) else pieceR xs k from rfl)
          obtain ⟨v1, hv1⟩ : ∃ v, (worstA xs k).1 = v := ⟨_, rfl⟩
          obtain ⟨v2, hv2⟩ : ∃ v, (worstA xs k).2 = v := ⟨_, rfl⟩
          obtain ⟨m1, hm1⟩ : ∃ v, (pieceR xs k).1 = v := ⟨_, rfl⟩
          obtain ⟨m2, hm2⟩ : ∃ v, (pieceR xs k).2.1 = v := ⟨_, rfl⟩
          obtain ⟨m3, hm3⟩ : ∃ v, (pieceR xs k).2.2 = v := ⟨_, rfl⟩
          rw [hv1, hv2] at HC HN
          rw [hm3] at HN
          rw [hm1, hm2, hm3]
          have HM1 := hid hm1
          have HM2 := hid hm2
          have HM3 := hid hm3
          clear hv1 hv2 hm1 hm2 hm3
          go_wp2_with fail
          refine (HC.out _ HBL.out).mono ?_
          rintro e w3 ⟨rfl, hb3⟩
          have HB3 := hid (below_of HBL.out HBL.out.size hb3)
          clear hb3
          by_cases hgt : m3 < v2
          · have HN2 := hid (HN.out.trans (if_pos hgt))
            have e1 : decide (v2 > m3) = true := decide_eq_true hgt
            go_wp2_with fail
            exact ⟨⟨k + 1, by omega, by go_num, by rw [HN2.out], by rw [HN2.out], by rw [HN2.out], HB3.out⟩, by simp [intOf]; omega⟩
          · have HN2 := hid (HN.out.trans (if_neg hgt))
            have e1 : decide (v2 > m3) = false := decide_eq_false hgt
            go_wp2_with fail
            exact ⟨⟨k + 1, by omega, by go_num, by rw [HN2.out, HM1.out], by rw [HN2.out, HM2.out], by rw [HN2.out, HM3.out], HB3.out⟩, by simp [intOf]; omega⟩
        · obtain rfl : k = xs.length := by omega
          have hd : decide ((xs.length : Int) < (xs.length : Int)) = false := by rw [decide_eq_false_iff_not]; omega
          go_wp2_with fail
          refine bodyPost_ret (v := .tuple #[.int .i64 (pieceR xs xs.length).1, .int .i64 (pieceR xs xs.length).2.1, .int .i64 (pieceR xs xs.length).2.2, .int .i64 0]) (by simp [results, Try.results10, go_sem]) rfl ?_
          exact ⟨by rw [HG.out], below_of HB0.out HB0.out.size HBL.out⟩
  · have HG := hid (show WorstAccidentG wi hi xs = (0, 0, 0, builtG wi hi xs) by unfold WorstAccidentG; rw [if_neg (by rw [hb]; decide)])
    rw [hb] at HAs HG
    clear B0 hbd h hb
    go_enter Try.func10, Try.ntmps10
    go_wp2_with fail
    rw [← hW0]
    clear hW0
    refine HAs.out.mono ?_
    rintro e w1 ⟨rfl, hb1⟩
    have HB1 := hid (below_of HB0.out HB0.out.size hb1)
    clear hb1
    go_wp2_with fail
    refine bodyPost_ret (v := .tuple #[.int .i64 0, .int .i64 0, .int .i64 0, .int .i64 1]) (by simp [results, Try.results10, go_sem]) rfl ?_
    exact ⟨by rw [HG.out], HB1.out⟩
  · have HG := hid (show WorstAccidentG wi hi xs = (0, 0, 0, builtG wi hi xs) by unfold WorstAccidentG; rw [if_neg (by rw [hb]; decide)])
    rw [hb] at HAs HG
    clear B0 hbd h hb
    go_enter Try.func10, Try.ntmps10
    go_wp2_with fail
    rw [← hW0]
    clear hW0
    refine HAs.out.mono ?_
    rintro e w1 ⟨rfl, hb1⟩
    have HB1 := hid (below_of HB0.out HB0.out.size hb1)
    clear hb1
    go_wp2_with fail
    refine bodyPost_ret (v := .tuple #[.int .i64 0, .int .i64 0, .int .i64 0, .int .i64 3]) (by simp [results, Try.results10, go_sem]) rfl ?_
    exact ⟨by rw [HG.out], HB1.out⟩
end Go.Proofs.Ytmjlnhhgpdcobaa
