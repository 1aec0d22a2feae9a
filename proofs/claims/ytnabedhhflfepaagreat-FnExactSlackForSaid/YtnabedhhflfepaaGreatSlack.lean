/-
  SlackFor, both the program's and the reference's.
  Conditions: the fields are in their kinds' ranges.
-/
import Derived.Test.YtnabedhhflfepaaGreatSlackA
import Derived.Test.YtnabedhhflfepaaGreatGaps
namespace Go.Proofs.YtnabedhhflfepaaGreat
open Go.RowKit
set_option linter.unusedSimpArgs false
set_option linter.unusedVariables false

theorem boolAt {w : World} {A : Option Addr} {l : List Bool} (h : SlA enB 1 w A l) (hp : 0 < l.length) : ∃ b o, A = some ⟨b, o, none⟩ ∧ b < w.heap.size ∧ ∀ (t : Nat) (v : Bool), l[t]? = some v → w.cell? ⟨b, o + t, none⟩ = some (.bool v) := by
  obtain ⟨b, o, e, hb, hc⟩ := h.cells hp
  refine ⟨b, o, e, hb, fun t v hv => ?_⟩
  have := hc t v hv 0 _ rfl
  simpa using this
theorem getD_at {ss : List Sp} {k : Nat} {s : Sp} (h : ss[k]? = some s) : ss.getD k Sp.z = s := by rw [List.getD_eq_getElem?_getD, h]; rfl
theorem slackG_of {wi hi : Int} {xs : List Pc} {ps : List Pu} {ss : List Sp} {k M : Nat} {u : Int} {s : Sp} (h0 : askedG wi hi xs ps ss = 0) (h1 : inB (k : Int) 0 ((xs.length : Int) - 1) = true) (h2 : inB u 0 1000000 = true) (h3 : ss[k]? = some s) (hM : (9 - s.hi).toNat = M) :
    SlackForG wi hi xs ps ss k u = (((upw (slackP xs ps ss k u) M 0 : Nat) : Int), 0) := by
  unfold SlackForG
  rw [if_pos h0, Int.toNat_natCast, getD_at h3, hM, if_pos (by rw [h1, h2]; rfl)]
theorem slackG_bad {wi hi : Int} {xs : List Pc} {ps : List Pu} {ss : List Sp} {i u : Int} (h0 : askedG wi hi xs ps ss = 0) (h1 : (inB i 0 ((xs.length : Int) - 1) && inB u 0 1000000) = false) : SlackForG wi hi xs ps ss i u = (0, 2) := by
  unfold SlackForG
  rw [if_pos h0, if_neg (by rw [h1]; simp)]
theorem slackG_no {wi hi : Int} {xs : List Pc} {ps : List Pu} {ss : List Sp} {i u : Int} (h0 : askedG wi hi xs ps ss ≠ 0) : SlackForG wi hi xs ps ss i u = (0, askedG wi hi xs ps ss) := by
  unfold SlackForG
  rw [if_neg h0]
set_option maxRecDepth 100000 in
set_option maxHeartbeats 4000000 in
theorem SlackFor_I (w : World) (wi hi : Int) (wl : -128 ≤ wi) (wu : wi ≤ 127) (hl : -128 ≤ hi) (hu : hi ≤ 127) (a : Option Addr) (c : Nat) (xs : List Pc) (h : SlA Pc.enc 5 w a xs) (ha : a = none → c = 0) (ok : ∀ p ∈ xs, p.Ok) (hxl : xs.length ≤ 1048576) (al : Option Addr) (cl : Nat) (ps : List Pu) (hp : SlA Pu.enc 4 w al ps) (hal : al = none → cl = 0) (okp : ∀ p ∈ ps, p.Ok) (hpl : ps.length ≤ 1048576) (sa : Option Addr) (sc : Nat) (ss : List Sp) (hs : SlA Sp.enc 2 w sa ss) (hsa : sa = none → sc = 0) (oks : ∀ p ∈ ss, p.Ok) (hsl : ss.length ≤ 1048576) (i : Int) (il : -9223372036854775808 ≤ i) (iu : i ≤ 9223372036854775807) (u : Int) (ul : -9223372036854775808 ≤ u) (uu : u ≤ 9223372036854775807) :
    Calls Tryz.prog 19 #[.agg #[.int .i8 wi, .int .i8 hi, .slice a xs.length c], .slice al ps.length cl, .slice sa ss.length sc, .int .i64 i, .int .i64 u] w fun e w' => e = .returned (.tuple #[.int .i64 (SlackForG wi hi xs ps ss i u).1, .int .i64 (SlackForG wi hi xs ps ss i u).2]) ∧ Below w.heap.size w w' := by
  obtain ⟨W0, hW0⟩ : ∃ W, W = w.alloc (.cells #[.int .i8 wi, .int .i8 hi, .slice a xs.length c] 35) := ⟨_, rfl⟩
  have B0 : Below w.heap.size w W0 := by rw [hW0]; exact (Below.refl _ _).alloc (Nat.le_refl _) _
  have hbd : BdA W0 w.heap.size wi hi a xs.length c := by rw [hW0]; exact ⟨by simp, by simp [go_sem], by simp [go_sem], by simp [go_sem]⟩
  have H1 := hid (spannedOk_I wi hi a c xs al cl ps sa sc ss W0 ⟨wl, wu, hl, hu⟩ (h.below B0) ha ok hxl (hp.below B0) okp (hs.below B0) hsa oks hsl)
  have k0 := hbd.c0
  have k1 := hbd.c1
  have k2 := hbd.c2
  rcases ask_lt (wi := wi) (hi := hi) (xs := xs) (ps := ps) (ss := ss) with h0 | h0 | h0
  · have HIX := hid (fun W (hB : Below W0.heap.size W0 W) => indexOk_I w.heap.size wi hi a xs.length c i W h.small (hbd.below hB hbd.lt))
    have HIN := hid (fun W => in_I u 0 1000000 W)
    obtain ⟨htb, h60⟩ := asked_ok h0
    obtain ⟨d1, hd1⟩ : ∃ d, inB i 0 ((xs.length : Int) - 1) = d := ⟨_, rfl⟩
    obtain ⟨d2, hd2⟩ : ∃ d, inB u 0 1000000 = d := ⟨_, rfl⟩
    have HD1 := hid hd1
    have HD2 := hid hd2
    rw [hd1] at HIX
    rw [hd2] at HIN
    have HB0 := hid B0
    have HA0 := hid h0
    rw [h0] at H1
    cases d1
    · have HG := hid (slackG_bad (u := u) h0 (by rw [hd1]; rfl))
      clear B0 hbd htb hd1 hd2 h0
      go_enter Tryz.func19, Tryz.ntmps19
      go_wp2_with fail
      rw [← hW0]
      clear hW0
      refine H1.out.mono ?_
      rintro e w1 ⟨rfl, hb1⟩
      go_wp2_with fail
      refine (HIX.out _ hb1).mono ?_
      rintro e w2 ⟨rfl, rfl⟩
      go_wp2_with fail
      go_ret2
      rw [HG.out]
      exact ⟨rfl, below_of HB0.out HB0.out.size hb1⟩
    · cases d2
      · have HG := hid (slackG_bad (i := i) (u := u) h0 (by rw [hd1, hd2]; rfl))
        clear B0 hbd htb hd1 hd2 h0
        go_enter Tryz.func19, Tryz.ntmps19
        go_wp2_with fail
        rw [← hW0]
        clear hW0
        refine H1.out.mono ?_
        rintro e w1 ⟨rfl, hb1⟩
        go_wp2_with fail
        refine (HIX.out _ hb1).mono ?_
        rintro e w2 ⟨rfl, rfl⟩
        go_wp2_with fail
        refine (HIN.out _).mono ?_
        rintro e w2 ⟨rfl, rfl⟩
        go_wp2_with fail
        go_ret2
        rw [HG.out]
        exact ⟨rfl, below_of HB0.out HB0.out.size hb1⟩
      · have hii := hd1
        rw [inB_iff] at hii
        obtain ⟨k, rfl⟩ := Int.eq_ofNat_of_zero_le hii.1
        have hkx : k < xs.length := by omega
        have hD := ok_of htb h60 0 none 0 none 0 none 0 none 0
        have hD0 : (ClkD.mk 0 0 0 none 0 xs none 0 ps none 0 ss none 0).Ok := ⟨hD.n, hD.m, hD.len, hD.pc, hD.pu, hD.sp, hD.one⟩
        have hlen : ss.length = xs.length := hD.len
        have hon : ∀ p ∈ ps, onB xs p = true := by
          unfold timedB pushesOk at htb
          simp only [Bool.and_eq_true, List.all_eq_true] at htb
          exact fun p hp => htb.2.2.2 p hp
        obtain ⟨s, hsk⟩ : ∃ s, ss[k]? = some s := ⟨_, List.getElem?_eq_getElem (by omega)⟩
        have hsn : 1 ≤ s.lo ∧ s.lo ≤ s.hi ∧ s.hi ≤ 9 := hD.sp s (List.mem_of_getElem? hsk)
        obtain ⟨M, hM⟩ : ∃ M, (9 - s.hi).toNat = M := ⟨_, rfl⟩
        have hMi : (M : Int) = 9 - s.hi := by omega
        have HG := hid (slackG_of h0 hd1 hd2 hsk hM)
        have HSK := hid hsk
        have H2 := hid (fun W (hB : Below W0.heap.size W0 W) => windows_I w.heap.size wi hi a c xs al cl ps sa sc ss W (hbd.below hB hbd.lt) ((h.below B0).below hB) ((hp.below B0).below hB) ((hs.below B0).below hB) okp hD0 hon)
        have H3 := hid (fun (m : Nat) (hm : s.hi + m ≤ 9) (W : World) (A : Option Addr) (C : Nat) (hB : Below W0.heap.size W0 W) (hw : SlA Sp.enc 2 W A (wideS ss k m)) => windows_I w.heap.size wi hi a c xs al cl ps A C (wideS ss k m) W (hbd.below hB hbd.lt) ((h.below B0).below hB) ((hp.below B0).below hB) hw okp (wideS_ok hsk hm 0 0 0 none 0 none 0 none none 0 0 none 0 hD0) hon)
        have HCl := hid (fun W (hB : Below W0.heap.size W0 W) => clone_Sp_L sa sc ss W ((hs.below B0).below hB) hsa hsl)
        have HRn := hid (show (winsOf (netOf xs ps ss)).length = xs.length from winsOf_length _)
        have HRm := hid (fun m => show (winsOf (netOf xs ps (wideS ss k m))).length = xs.length from winsOf_length _)
        have HPd := hid (fun m => show slackP xs ps ss k u m = !stillB u (winsOf (netOf xs ps ss)) (winsOf (netOf xs ps (wideS ss k m))) xs.length from rfl)
        have HDn := hid (fun (m m' : Nat) (hm : m ≤ m') (h9 : s.hi + m' ≤ 9) (hp : slackP xs ps ss k u m' = false) => slackP_down hsk hm h9 hD0 hp)
        have hsc := (hs.below B0).cells (by omega)
        obtain ⟨b1, o1, hsa1, hb1s, hc1⟩ := hsc
        subst hsa1
        have f1 : W0.cell? ⟨b1, o1 + k * 2 + 1, none⟩ = some (.int .i8 s.hi) := hc1 k _ hsk 1 _ rfl
        have Hsub := hid hlen
        have HFL := hid (fun (m : Nat) => show (wideS ss k m).flatMap Sp.enc = (ss.flatMap Sp.enc).set (k * 2 + 1) (.int .i8 (s.hi + m)) by rw [wideS_at hsk]; exact flat_hi hsk)
        have HWL := hid (fun (m : Nat) => (wideS_len ss k m).trans hlen)
        have HSF := hid (show (ss.flatMap Sp.enc)[k * 2 + 1]? = some (.int .i8 s.hi) from flat_hi_at hsk)
        have HFE := hid (flatMap_len Sp.enc_length ss)
        rw [hlen] at H1 H2 HCl HFE ⊢
        have hnn : 0 < xs.length := by omega
        have hxk : (k : Int) < (xs.length : Int) := by omega
        generalize winsOf (netOf xs ps ss) = R at *
        generalize hP : slackP xs ps ss k u = P at *
        clear hbd htb hd1 hd2 h0 hD hD0 hlen hon hsk hc1 hs h hp hP
        obtain ⟨slo, shi⟩ := s
        dsimp only at hsn f1 hM hMi H3 HFL HSF HDn
        obtain ⟨t1, t2, t3⟩ := hsn
        go_enter Tryz.func19, Tryz.ntmps19
        go_wp2_with fail
        rw [← hW0]
        clear hW0
        refine H1.out.mono ?_
        rintro e w1 ⟨rfl, hb1⟩
        go_wp2_with fail
        refine (HIX.out _ hb1).mono ?_
        rintro e w2 ⟨rfl, rfl⟩
        go_wp2_with fail
        refine (HIN.out _).mono ?_
        rintro e w2 ⟨rfl, rfl⟩
        go_wp2_with fail
        refine (H2.out _ hb1).mono ?_
        rintro e w3 ⟨A3, c3, rfl, hb3, own3⟩
        rw [← HRn.out] at own3
        have HR3 := hid (SlA.of_own (enc := Wn.enc) (n := 4) (fun _ => rfl) own3)
        have B3 := below_then hb1 hb3
        have HB3 := hid B3
        have HT := hid (inTime_I A3 c3 xs.length R u w3 HR3.out HRn.out (by omega))
        clear own3 hb3 hb1
        go_wp2_with fail
        refine HT.out.mono ?_
        rintro e w4 ⟨B4, c4, rfl, hb4, own4⟩
        have HU := hid (SlA.of_own (enc := enB) (n := 1) enB_length (show w4.ownsRow w3.heap.size 4 1 (.slice B4 (R.map (inT u)).length c4) (R.map (inT u)).length _ by rw [List.length_map, HRn.out]; exact own4))
        have B4' := below_then HB3.out hb4
        have HB4 := hid B4'
        have f1' : w4.cell? ⟨b1, o1 + k * 2 + 1, none⟩ = some (.int .i8 shi) := cell_on B4' f1
        clear own4 hb4 f1 HT B4' B3
        have w9 : IntKind.i64.wrap (9 - shi) = 9 - shi := IntWalk.i64_in _ (by omega)
        go_wp2_with fail
        go_loopw [16] (fun mv wr => ∃ m : Nat, mv = .int .i64 m ∧ m ≤ M ∧ (∀ j, m < j → j ≤ M → P j = true) ∧ Below w4.heap.size w4 wr) (fun mv _ => (intOf mv).toNat)
        case atStart => exact ⟨M, by rw [hMi], Nat.le_refl _, fun j h1 h2 => by omega, Below.refl _ _⟩
        case round =>
          obtain ⟨m, rfl, hmM, hno, hbl⟩ := hrel
          obtain ⟨V, hV⟩ : ∃ V, V = wr := ⟨_, rfl⟩
          subst hV
          have HNO := hid hno
          have HBL := hid hbl
          have HBV := hid (below_then HB4.out hbl)
          have hm9 : (m : Int) ≤ 9 := by omega
          have hsm : shi + m ≤ 9 := by omega
          clear hno hbl
          by_cases hm0 : 0 < m
          · have hmp : (0 : Int) < (m : Int) := by omega
            have hmd : decide ((m : Int) > 0) = true := decide_eq_true hmp
            go_wp2_with fail
            refine (HCl.out _ HBV.out).mono ?_
            rintro e w5 ⟨A5, c5, rfl, hb5, own5⟩
            obtain ⟨g, rfl⟩ : ∃ g, A5 = some ⟨g, 0, none⟩ := by
              obtain ⟨g, cap', hv, _, _⟩ := own5.form hnn
              injection hv with hv1
              exact ⟨g, hv1⟩
            have hg5 : V.heap.size ≤ g := (own5.lt g rfl).1
            have g1 : w5.cell? ⟨g, k * 2 + 1, none⟩ = some (.int .i8 shi) := (own5.cellAt _ (by omega)).trans HSF.out
            have z1 : w5.frozen? ⟨g, k * 2 + 1, none⟩ = false := own5.frozenAt _
            have hst := own5.stored (k * 2 + 1) (.int .i8 (shi + m))
            obtain ⟨W6, hW6⟩ : ∃ W, W = w5.setCell ⟨g, k * 2 + 1, none⟩ (.int .i8 (shi + m)) := ⟨_, rfl⟩
            have hst1 := hst.1
            rw [← hW6, ← HFL.out] at hst1
            have B6 : Below V.heap.size V W6 := by rw [hW6]; exact hb5.setCell hg5 _
            have hw6 : SlA Sp.enc 2 W6 (some ⟨g, 0, none⟩) (wideS ss k m) := SlA.of_own (enc := Sp.enc) (n := 2) (cap := c5) (fun _ => rfl) (by rw [HWL.out]; exact hst1)
            have HW6 := hid (H3.out m hsm W6 (some ⟨g, 0, none⟩) c5 (below_then HBV.out B6) hw6)
            rw [HWL.out] at HW6
            have HB6 := hid B6
            have HRm' := hid (HRm.out m)
            have HPm := hid (HPd.out m)
            generalize winsOf (netOf xs ps (wideS ss k m)) = R' at *
            have wm : IntKind.i8.wrap (m : Int) = m := by
              have : (m : Int) ≤ 9 := hm9
              unfold IntKind.wrap; simp [IntKind.bits, IntKind.signed]; omega
            have wsm : IntKind.i8.wrap (shi + m) = shi + m := by
              unfold IntKind.wrap; simp [IntKind.bits, IntKind.signed]; omega
            clear hst hst1 hw6 B6 own5 hb5
            go_wp2_with fail
            rw [← hW6]
            clear hW6 g1 z1
            refine HW6.out.mono ?_
            rintro e w7 ⟨A7, c7, rfl, hb7, own7⟩
            rw [← HRm'.out] at own7
            have HR7 := hid (SlA.of_own (enc := Wn.enc) (n := 4) (fun _ => rfl) own7)
            have HT7 := hid (inTime_I A7 c7 xs.length R' u w7 HR7.out HRm'.out (by omega))
            have HB7 := hid (below_then HB6.out hb7)
            clear own7 hb7
            go_wp2_with fail
            refine HT7.out.mono ?_
            rintro e w8 ⟨B8, c8, rfl, hb8, own8⟩
            have U8 := SlA.of_own (enc := enB) (n := 1) enB_length (show w8.ownsRow w7.heap.size 4 1 (.slice B8 (R'.map (inT u)).length c8) (R'.map (inT u)).length _ by rw [List.length_map, HRm'.out]; exact own8)
            have B8' := below_then HB7.out hb8
            have HB8 := hid B8'
            obtain ⟨b8, o8, rfl, hb8l, hc8⟩ := boolAt U8 (by rw [List.length_map, HRm'.out]; omega)
            have UU := (HU.out.below HBL.out).below B8'
            obtain ⟨b4, o4, rfl, hb4l, hc4⟩ := boolAt UU (by rw [List.length_map, HRn.out]; omega)
            have HC8 := hid hc8
            have HC4 := hid hc4
            clear own8 hb8 B8' U8 UU hc8 hc4 HT7
            go_wp2_with fail
            go_loop [19, 80] (fun sv iv => ∃ t : Nat, t ≤ xs.length ∧ iv = .int .i64 t ∧ sv = .bool (stillB u R R' t)) (fun _ iv => xs.length - (intOf iv).toNat)
            case atStart => exact ⟨0, Nat.zero_le _, rfl, rfl⟩
            case round =>
              obtain ⟨t, ht, rfl, rfl⟩ := hrel
              by_cases htl : t < xs.length
              · have htd : decide ((t : Int) < (xs.length : Int)) = true := by rw [decide_eq_true_iff]; omega
                have hti : (t : Int) < (xs.length : Int) := by omega
                obtain ⟨p, hp⟩ : ∃ p, R[t]? = some p := ⟨_, List.getElem?_eq_getElem (by have := HRn.out; omega)⟩
                obtain ⟨q, hq⟩ : ∃ q, R'[t]? = some q := ⟨_, List.getElem?_eq_getElem (by have := HRm'.out; omega)⟩
                have x4 := HC4.out t (inT u p) (by rw [List.getElem?_map, hp]; rfl)
                have x8 := HC8.out t (inT u q) (by rw [List.getElem?_map, hq]; rfl)
                have HS := hid (stillB_step (u := u) hp hq)
                obtain ⟨ip, hip⟩ : ∃ b, inT u p = b := ⟨_, rfl⟩
                obtain ⟨iq, hiq⟩ : ∃ b, inT u q = b := ⟨_, rfl⟩
                rw [hip] at x4 HS
                rw [hiq] at x8 HS
                obtain ⟨st, hst⟩ : ∃ b, stillB u R R' t = b := ⟨_, rfl⟩
                rw [hst] at HS
                rw [hst]
                clear hp hq hip hiq hst
                cases st
                · go_wp2_with fail
                  exact ⟨⟨t + 1, by omega, by go_num, by rw [HS.out]; rfl⟩, by simp [intOf]; omega⟩
                · cases ip
                  · go_wp2_with fail
                    exact ⟨⟨t + 1, by omega, by go_num, by rw [HS.out]; rfl⟩, by simp [intOf]; omega⟩
                  · go_wp2_with fail
                    exact ⟨⟨t + 1, by omega, by go_num, by rw [HS.out]; simp⟩, by simp [intOf]; omega⟩
              · obtain rfl : t = xs.length := by omega
                have htd : decide ((xs.length : Int) < (xs.length : Int)) = false := by rw [decide_eq_false_iff_not]; omega
                obtain ⟨st, hst⟩ : ∃ b, stillB u R R' xs.length = b := ⟨_, rfl⟩
                rw [hst] at HPm
                rw [hst]
                clear hst
                cases st
                · have hw1 : IntKind.i64.wrap ((m : Int) - 1) = (m : Int) - 1 := IntWalk.i64_in _ (by omega)
                  have HF := hid (show ∃ m' : Nat, Value.int .i64 ((m : Int) - 1) = .int .i64 m' ∧ m' ≤ M ∧ (∀ j, m' < j → j ≤ M → P j = true) ∧ Below w4.heap.size w4 w8 from ⟨m - 1, congrArg (Value.int .i64) (by omega), by omega, fun j h1 h2 => by
                    by_cases e : j = m
                    · subst e; rw [HPm.out]; rfl
                    · exact HNO.out j (by omega) h2, below_then HBL.out HB8.out⟩)
                  go_wp2_with fail
                  exact ⟨HF.out, by simp [intOf]; omega⟩
                · go_wp2_with fail
                  refine bodyPost_ret (v := .tuple #[.int .i64 m, .int .i64 0]) (by simp [results, Tryz.results19, go_sem]) rfl ?_
                  rw [HG.out]
                  refine ⟨?_, below_of HB0.out HB0.out.size (below_then HBV.out HB8.out)⟩
                  have hup : upw P M 0 = m := upw_down M 0 m (Nat.zero_le _) (by omega) (fun j h1 h2 => HDn.out j m h2 hsm (by rw [HPm.out]; rfl)) (fun h => HNO.out (m + 1) (by omega) (by omega))
                  rw [hup]
          · obtain rfl : m = 0 := by omega
            go_wp2_with fail
            go_ret2
            rw [HG.out]
            refine ⟨?_, below_of HB0.out HB0.out.size HBV.out⟩
            have hup : upw P M 0 = 0 := upw_down M 0 0 (Nat.zero_le _) (by omega) (fun j h1 h2 => by omega) (fun h => HNO.out 1 (by omega) (by omega))
            rw [hup]
            rfl
  all_goals (
    have HG := hid (show SlackForG wi hi xs ps ss i u = (0, askedG wi hi xs ps ss) from slackG_no (by rw [h0]; decide))
    rw [h0] at H1 HG
    have HB0 := hid B0
    clear B0 hbd
    go_enter Tryz.func19, Tryz.ntmps19
    go_wp2_with fail
    rw [← hW0]
    clear hW0
    refine H1.out.mono ?_
    rintro e w1 ⟨rfl, hb1⟩
    go_wp2_with fail
    go_ret2
    rw [HG.out]
    exact ⟨rfl, below_of HB0.out HB0.out.size hb1⟩)
set_option maxRecDepth 100000 in
set_option maxHeartbeats 4000000 in
theorem SlackFor_S (w : World) (wi hi : Int) (wl : -128 ≤ wi) (wu : wi ≤ 127) (hl : -128 ≤ hi) (hu : hi ≤ 127) (a : Option Addr) (c : Nat) (xs : List Pc) (h : SlA Pc.enc 5 w a xs) (ha : a = none → c = 0) (ok : ∀ p ∈ xs, p.Ok) (hxl : xs.length ≤ 1048576) (al : Option Addr) (cl : Nat) (ps : List Pu) (hp : SlA Pu.enc 4 w al ps) (hal : al = none → cl = 0) (okp : ∀ p ∈ ps, p.Ok) (hpl : ps.length ≤ 1048576) (sa : Option Addr) (sc : Nat) (ss : List Sp) (hs : SlA Sp.enc 2 w sa ss) (hsa : sa = none → sc = 0) (oks : ∀ p ∈ ss, p.Ok) (hsl : ss.length ≤ 1048576) (i : Int) (il : -9223372036854775808 ≤ i) (iu : i ≤ 9223372036854775807) (u : Int) (ul : -9223372036854775808 ≤ u) (uu : u ≤ 9223372036854775807) :
    Calls Tryz.prog 18 #[.agg #[.int .i8 wi, .int .i8 hi, .slice a xs.length c], .slice al ps.length cl, .slice sa ss.length sc, .int .i64 i, .int .i64 u] w fun e w' => e = .returned (.tuple #[.int .i64 (SlackForG wi hi xs ps ss i u).1, .int .i64 (SlackForG wi hi xs ps ss i u).2]) ∧ Below w.heap.size w w' := by
  obtain ⟨W0, hW0⟩ : ∃ W, W = w.alloc (.cells #[.int .i8 wi, .int .i8 hi, .slice a xs.length c] 35) := ⟨_, rfl⟩
  have B0 : Below w.heap.size w W0 := by rw [hW0]; exact (Below.refl _ _).alloc (Nat.le_refl _) _
  have hbd : BdA W0 w.heap.size wi hi a xs.length c := by rw [hW0]; exact ⟨by simp, by simp [go_sem], by simp [go_sem], by simp [go_sem]⟩
  have H1 := hid (WindowsOf_S W0 wi hi wl wu hl hu a c xs (h.below B0) ha ok hxl al cl ps (hp.below B0) hal okp hpl sa sc ss (hs.below B0) hsa oks hsl)
  have k0 := hbd.c0
  have k1 := hbd.c1
  have k2 := hbd.c2
  have ssm := hs.small
  rcases ask_lt (wi := wi) (hi := hi) (xs := xs) (ps := ps) (ss := ss) with h0 | h0 | h0
  · obtain ⟨htb, h60⟩ := asked_ok h0
    have hWG : WindowsOfG wi hi xs ps ss = (winsOf (netOf xs ps ss), ((rest (netOf xs ps ss) + 1 : Nat) : Int), 0) := by unfold WindowsOfG; rw [if_pos h0]
    rw [hWG] at H1
    have HRS := hid (show (winsOf (netOf xs ps ss)).length = xs.length from winsOf_length _)
    have H1' := H1
    clear H1 hWG
    have H1 := hid (show Calls Tryz.prog 31 #[.agg #[.int .i8 wi, .int .i8 hi, .slice a xs.length c], .slice al ps.length cl, .slice sa ss.length sc] W0 (ResS2 Wn.enc 4 63 W0 (winsOf (netOf xs ps ss)) ((rest (netOf xs ps ss) + 1 : Nat) : Int) 0) from H1'.out)
    clear H1'
    generalize ((rest (netOf xs ps ss) + 1 : Nat) : Int) = rounds at *
    have hlen : ss.length = xs.length := (ok_of htb h60 0 none 0 none 0 none 0 none 0).len
    have HIN := hid (fun W => in_S i 0 ((xs.length : Int) - 1) W)
    have HTI := hid (fun W => tick_S u W)
    obtain ⟨d1, hd1⟩ : ∃ d, inB i 0 ((xs.length : Int) - 1) = d := ⟨_, rfl⟩
    obtain ⟨d2, hd2⟩ : ∃ d, inB u 0 1000000 = d := ⟨_, rfl⟩
    have HD1 := hid hd1
    have HD2 := hid hd2
    rw [hd1] at HIN
    rw [hd2] at HTI
    have HB0 := hid B0
    have w1' : IntKind.i64.wrap ((xs.length : Int) - 1) = (xs.length : Int) - 1 := IntWalk.i64_in _ (by omega)
    cases d1
    · have HG := hid (slackG_bad (u := u) h0 (by rw [hd1]; rfl))
      rw [hlen] at H1 ⊢
      clear B0 hbd htb hd1 hd2 h0 hlen
      go_enter Tryz.func18, Tryz.ntmps18
      go_wp2_with fail
      rw [← hW0]
      clear hW0
      refine H1.out.mono ?_
      rintro e w1 ⟨A, c1, rfl, hb1, own⟩
      clear own
      go_wp2_with fail
      refine (HIN.out _).mono ?_
      rintro e w2 ⟨rfl, rfl⟩
      go_wp2_with fail
      go_ret2
      rw [HG.out]
      exact ⟨rfl, below_of HB0.out HB0.out.size hb1⟩
    · cases d2
      · have HG := hid (slackG_bad (i := i) (u := u) h0 (by rw [hd1, hd2]; rfl))
        rw [hlen] at H1 ⊢
        clear B0 hbd htb hd1 hd2 h0 hlen
        go_enter Tryz.func18, Tryz.ntmps18
        go_wp2_with fail
        rw [← hW0]
        clear hW0
        refine H1.out.mono ?_
        rintro e w1 ⟨A, c1, rfl, hb1, own⟩
        clear own
        go_wp2_with fail
        refine (HIN.out _).mono ?_
        rintro e w2 ⟨rfl, rfl⟩
        go_wp2_with fail
        refine (HTI.out _).mono ?_
        rintro e w2 ⟨rfl, rfl⟩
        go_wp2_with fail
        go_ret2
        rw [HG.out]
        exact ⟨rfl, below_of HB0.out HB0.out.size hb1⟩
      · have hii := hd1
        rw [inB_iff] at hii
        obtain ⟨k, rfl⟩ := Int.eq_ofNat_of_zero_le hii.1
        have hkx : k < xs.length := by omega
        have hD := ok_of htb h60 0 none 0 none 0 none 0 none 0
        have hDD := fun na nc => ok_of htb h60 w.heap.size a c al cl sa sc na nc
        obtain ⟨s, hsk⟩ : ∃ s, ss[k]? = some s := ⟨_, List.getElem?_eq_getElem (by omega)⟩
        have hsn : 1 ≤ s.lo ∧ s.lo ≤ s.hi ∧ s.hi ≤ 9 := hD.sp s (List.mem_of_getElem? hsk)
        obtain ⟨M, hM⟩ : ∃ M, (9 - s.hi).toNat = M := ⟨_, rfl⟩
        have hMi : (M : Int) = 9 - s.hi := by omega
        have HG := hid (slackG_of h0 hd1 hd2 hsk hM)
        have HDm := hid (fun (m : Nat) (hm : s.hi + m ≤ 9) (A : Option Addr) (C : Nat) na nc => wideS_ok hsk hm w.heap.size wi hi a c al cl sa A sc C na nc (hDD na nc))
        have H2 := hid (fun (m : Nat) (hm : s.hi + m ≤ 9) (W : World) (A : Option Addr) (C : Nat) (hB : Below W0.heap.size W0 W) (hw : SlA Sp.enc 2 W A (wideS ss k m)) => time_S w.heap.size wi hi a c xs al cl ps A C (wideS ss k m) W (hbd.below hB hbd.lt) ((h.below B0).below hB) ((hp.below B0).below hB) hw (HDm.out m hm A C))
        have H3 := hid (fun (m : Nat) (hm : s.hi + m ≤ 9) (A : Option Addr) (C : Nat) cb na nc base W hck => winds_S base cb (ClkD.mk w.heap.size wi hi a c xs al cl ps A C (wideS ss k m) na nc) (rd (netOf xs ps (wideS ss k m)) (rest (netOf xs ps (wideS ss k m)) + 1)) W (HDm.out m hm A C na nc) hck)
        have hwe := hid (fun (m : Nat) (hm : s.hi + m ≤ 9) => show winL (mayT (rd (netOf xs ps (wideS ss k m)) (rest (netOf xs ps (wideS ss k m)) + 1)).E (rd (netOf xs ps (wideS ss k m)) (rest (netOf xs ps (wideS ss k m)) + 1)).L) (rd (netOf xs ps (wideS ss k m)) (rest (netOf xs ps (wideS ss k m)) + 1)).E (rd (netOf xs ps (wideS ss k m)) (rest (netOf xs ps (wideS ss k m)) + 1)).L xs.length = winsOf (netOf xs ps (wideS ss k m)) by
          have okN : (netOf xs ps (wideS ss k m)).Ok := net_ok (HDm.out m hm none 0 none 0)
          rw [may_rest okN (rest_is okN).1]; rfl)
        have HRm := hid (fun m => show (winsOf (netOf xs ps (wideS ss k m))).length = xs.length from winsOf_length _)
        have HPd := hid (fun m => show slackP xs ps ss k u m = !stillB u (winsOf (netOf xs ps ss)) (winsOf (netOf xs ps (wideS ss k m))) xs.length from rfl)
        have HUn := hid (fun (m : Nat) A c1 A' c1' W h h' => until_S A c1 (winsOf (netOf xs ps ss)) A' c1' (winsOf (netOf xs ps (wideS ss k m))) xs.length u W h h' HRS.out (HRm.out m) (by omega))
        have Hfl := hid ((hs.below B0).flat Sp.enc_length)
        have hsc := (hs.below B0).cells (by omega)
        obtain ⟨b1, o1, hsa1, hb1s, hc1⟩ := hsc
        subst hsa1
        have f1 : W0.cell? ⟨b1, o1 + k * 2 + 1, none⟩ = some (.int .i8 s.hi) := hc1 k _ hsk 1 _ rfl
        have HF1 := hid f1
        have HFL := hid (fun (m : Nat) => show (wideS ss k m).flatMap Sp.enc = (ss.flatMap Sp.enc).set (k * 2 + 1) (.int .i8 (s.hi + m)) by rw [wideS_at hsk]; exact flat_hi hsk)
        have HWL := hid (fun (m : Nat) => (wideS_len ss k m).trans hlen)
        have HSF := hid (show (ss.flatMap Sp.enc)[k * 2 + 1]? = some (.int .i8 s.hi) from flat_hi_at hsk)
        have HFE := hid (flatMap_len Sp.enc_length ss)
        have HOC := hid (oneCell_flat (en := Sp.enc) (fun p u hu => by simp [Sp.enc] at hu; rcases hu with rfl | rfl <;> rfl) ss)
        rw [hlen] at H1 HFE Hfl ⊢
        have hnn : 0 < xs.length := by omega
        have hxk : (k : Int) < (xs.length : Int) := by omega
        generalize hP : slackP xs ps ss k u = P at *
        generalize winsOf (netOf xs ps ss) = R at *
        clear hbd htb hd1 hd2 h0 hD hDD hlen hsk hc1 hs h hp hP f1
        obtain ⟨slo, shi⟩ := s
        dsimp only at hsn HF1 hM hMi H2 H3 hwe HFL HSF HDm
        obtain ⟨t1, t2, t3⟩ := hsn
        go_enter Tryz.func18, Tryz.ntmps18
        go_wp2_with fail
        rw [← hW0]
        clear hW0
        refine H1.out.mono ?_
        rintro e w1 ⟨A1, c1, rfl, hb1, own1⟩
        have HR1 := hid (SlA.of_own (enc := Wn.enc) (n := 4) (fun _ => rfl) own1)
        have HB1 := hid hb1
        rw [HRS.out]
        clear own1 hb1
        go_wp2_with fail
        refine (HIN.out _).mono ?_
        rintro e w2 ⟨rfl, rfl⟩
        go_wp2_with fail
        refine (HTI.out _).mono ?_
        rintro e w2 ⟨rfl, rfl⟩
        go_wp2_with fail
        go_loopw [15] (fun mv wr => ∃ m : Nat, mv = .int .i64 m ∧ m ≤ M ∧ upw P (M - m) m = upw P M 0 ∧ Below w1.heap.size w1 wr) (fun mv _ => M - (intOf mv).toNat)
        case atStart => exact ⟨0, rfl, Nat.zero_le _, rfl, Below.refl _ _⟩
        case round =>
          obtain ⟨m, rfl, hmM, hup, hbl⟩ := hrel
          obtain ⟨V, hV⟩ : ∃ V, V = wr := ⟨_, rfl⟩
          subst hV
          have HUP := hid hup
          have HBL := hid hbl
          have HBV := hid (below_then HB1.out hbl)
          have hm9 : (m : Int) ≤ 9 := by omega
          have hsm : shi + m ≤ 9 := by omega
          have wm : IntKind.i8.wrap (m : Int) = m := by
            unfold IntKind.wrap; simp [IntKind.bits, IntKind.signed]; omega
          have wsm : IntKind.i8.wrap (shi + m) = shi + m := by
            unfold IntKind.wrap; simp [IntKind.bits, IntKind.signed]; omega
          have wm1 : IntKind.i8.wrap ((m : Int) + 1) = (m : Int) + 1 := by
            unfold IntKind.wrap; simp [IntKind.bits, IntKind.signed]; omega
          have f1 : V.cell? ⟨b1, o1 + k * 2 + 1, none⟩ = some (.int .i8 shi) := cell_on HBV.out HF1.out
          clear hup hbl
          by_cases hm0 : m < M
          · have hsm1 : shi + ((m + 1 : Nat) : Int) ≤ 9 := by omega
            have hcl : shi + (m : Int) < 9 := by omega
            have hcd : decide (shi + (m : Int) < 9) = true := decide_eq_true hcl
            have wsm1 : IntKind.i8.wrap (shi + ((m : Int) + 1)) = shi + ((m : Int) + 1) := by
              unfold IntKind.wrap; simp [IntKind.bits, IntKind.signed]; omega
            have hVb : b1 < V.heap.size := Nat.lt_of_lt_of_le hb1s HBV.out.size
            go_wp2_with (at_builtin; refine app_many rfl _ _ 39 rfl V.heap.size 74 (.agg Sp.z.enc.toArray) 2 2 Tryz.underlying39 (by kernel_rfl) rfl (by decide) _ 0 [] rfl (World.ownsRow_lit V #[] 0 (Nat.le_refl _) (by simp [maxLen]) (by simp)) (some ⟨b1, o1, none⟩) xs.length sc (ss.flatMap Sp.enc) rfl ?c1 ?c6 ?c2 ?c3 ?c4 (by decide) ?c5 ?_)
            case c1 => exact HFE.out
            case c2 => exact HOC.out
            case c3 => exact fun _ => .inr (by simp)
            case c4 => omega
            case c5 => simp
            case c6 =>
              intro hp
              obtain ⟨b, q, e, hc⟩ := Hfl.out hp
              injection e with e
              injection e with e1 e2
              subst e1 e2
              exact ⟨b1, o1, rfl, fun j u hu => (((Below.refl V.heap.size V).alloc (Nat.le_refl _) _).cell (p := ⟨b1, _, none⟩) hVb).trans ((HBV.out.cell (p := ⟨b1, _, none⟩) hb1s).trans (hc j u hu))⟩
            intro v1 w5 own5 hg5 hat
            try simp only [Nat.zero_add, List.nil_append] at own5
            obtain ⟨A5, c5, rfl⟩ := own_slice own5
            obtain ⟨g, rfl⟩ : ∃ g, A5 = some ⟨g, 0, none⟩ := by
              obtain ⟨g, cap', hv, _, _⟩ := own5.form hnn
              injection hv with hv1
              exact ⟨g, hv1⟩
            have hg5' : V.heap.size ≤ g := (own5.lt g rfl).1
            have hB5 : Below V.heap.size V w5 := ((Below.refl _ _).alloc (Nat.le_refl _) _).grown hg5 (by simp) (by simp [Value.ownBlock])
            have g1 : w5.cell? ⟨g, k * 2 + 1, none⟩ = some (.int .i8 shi) := (own5.cellAt _ (by omega)).trans HSF.out
            have z1 : w5.frozen? ⟨g, k * 2 + 1, none⟩ = false := own5.frozenAt _
            have hst := own5.stored (k * 2 + 1) (.int .i8 (shi + ((m : Int) + 1)))
            obtain ⟨W6, hW6⟩ : ∃ W, W = w5.setCell ⟨g, k * 2 + 1, none⟩ (.int .i8 (shi + ((m : Int) + 1))) := ⟨_, rfl⟩
            have hst1 := hst.1
            have hfm := HFL.out (m + 1)
            rw [show (((m + 1 : Nat) : Int)) = (m : Int) + 1 by omega] at hfm
            rw [← hW6, ← hfm] at hst1
            have B6 : Below V.heap.size V W6 := by rw [hW6]; exact hB5.setCell hg5' _
            have hw6 : SlA Sp.enc 2 W6 (some ⟨g, 0, none⟩) (wideS ss k (m + 1)) := SlA.of_own (enc := Sp.enc) (n := 2) (cap := c5) (fun _ => rfl) (by rw [HWL.out]; exact hst1)
            have HW6 := hid (H2.out (m + 1) hsm1 W6 (some ⟨g, 0, none⟩) c5 (below_then HBV.out B6) hw6)
            have HW7 := hid (H3.out (m + 1) hsm1 (some ⟨g, 0, none⟩) c5)
            have HWE := hid (hwe.out (m + 1) hsm1)
            have HPm := hid (HPd.out (m + 1))
            have HUm := hid (HUn.out (m + 1))
            have HLm := hid (HRm.out (m + 1))
            rw [HWL.out] at HW6
            have HB6 := hid (below_then HBL.out B6)
            clear hst hst1 hw6 B6 own5 hB5 hg5 hat hfm
            go_wp2_with fail
            rw [← hW6]
            clear hW6 g1 z1
            refine HW6.out.mono ?_
            rintro e w7 ⟨cb, na, nc, rfl, hb7, hck⟩
            have HK := hid hck
            have HB7 := hid (below_then HB6.out hb7)
            clear hck hb7
            go_wp2_with fail
            refine (HW7.out _ _ _ _ _ HK.out).mono ?_
            rintro e w8 hr
            rw [HWE.out] at hr
            generalize winsOf (netOf xs ps (wideS ss k (m + 1))) = R' at *
            obtain ⟨A8, c8, rfl, hb8, own8⟩ := hr
            have HR8 := hid (SlA.of_own (enc := Wn.enc) (n := 4) (fun _ => rfl) own8)
            have HB8 := hid (below_then HB7.out hb8)
            rw [HLm.out]
            clear own8 hb8
            have HX := hid (HUm.out A1 c1 A8 c8 w8 (HR1.out.below HB8.out) HR8.out)
            obtain ⟨st, hst⟩ : ∃ b, stillB u R R' xs.length = b := ⟨_, rfl⟩
            rw [hst] at HX HPm
            clear hst
            go_wp2_with fail
            refine HX.out.mono ?_
            rintro e w9 ⟨rfl, rfl⟩
            cases st
            · have hup : upw P M 0 = m := by
                rw [← HUP.out, show M - m = (M - m - 1) + 1 by omega]
                exact upw_stop (by rw [HPm.out]; rfl)
              have HU2 := hid hup
              clear hup
              go_wp2_with fail
              refine bodyPost_ret (v := .tuple #[.int .i64 m, .int .i64 0]) (by simp [results, Tryz.results18, go_sem]) rfl ?_
              rw [HG.out, HU2.out]
              exact ⟨rfl, below_of HB0.out HB0.out.size (below_then HB1.out HB8.out)⟩
            · have hup : upw P (M - (m + 1)) (m + 1) = upw P M 0 := by
                rw [← HUP.out, show M - m = (M - (m + 1)) + 1 by omega]
                exact (upw_step (by rw [HPm.out]; rfl)).symm
              have HU2 := hid hup
              clear hup
              go_wp2_with fail
              exact ⟨⟨m + 1, by go_num, by omega, HU2.out, HB8.out⟩, by simp [intOf]; omega⟩
          · obtain rfl : m = M := by omega
            have hcl : ¬ shi + (m : Int) < 9 := by omega
            have hcd : decide (shi + (m : Int) < 9) = false := decide_eq_false hcl
            have hup : upw P m 0 = m := by have := HUP.out; rw [Nat.sub_self] at this; exact this.symm
            have HU2 := hid hup
            clear hup
            go_wp2_with fail
            refine bodyPost_ret (v := .tuple #[.int .i64 m, .int .i64 0]) (by simp [results, Tryz.results18, go_sem]; omega) rfl ?_
            rw [HG.out, HU2.out]
            exact ⟨rfl, below_of HB0.out HB0.out.size HBV.out⟩
  all_goals (
    have HG := hid (show SlackForG wi hi xs ps ss i u = (0, askedG wi hi xs ps ss) from slackG_no (by rw [h0]; decide))
    have hWG : WindowsOfG wi hi xs ps ss = ([], 0, askedG wi hi xs ps ss) := by unfold WindowsOfG; rw [if_neg (by rw [h0]; decide)]
    rw [hWG, h0] at H1
    rw [h0] at HG
    have HB0 := hid B0
    clear B0 hbd hWG
    go_enter Tryz.func18, Tryz.ntmps18
    go_wp2_with fail
    rw [← hW0]
    clear hW0
    refine H1.out.mono ?_
    rintro e w1 ⟨A, c1, rfl, hb1, own⟩
    clear own
    go_wp2_with fail
    go_ret2
    rw [HG.out]
    exact ⟨rfl, below_of HB0.out HB0.out.size hb1⟩)
end Go.Proofs.YtnabedhhflfepaaGreat
