/-
  The program's clock: rounds until nothing changes.
  Conditions: the board, its pushes and spans are right.
-/
import Derived.Test.YtnabedhhflfepaaTimingA
namespace Go.Proofs.Ytnabedhhflfepaa
open Go.RowKit
set_option linter.unusedSimpArgs false
set_option linter.unusedVariables false

set_option maxRecDepth 100000 in
set_option maxHeartbeats 4000000 in
theorem timing_I (b : Nat) (wi hi : Int) (a : Option Addr) (c : Nat) (xs : List Pc) (al : Option Addr) (cl : Nat) (ps : List Pu) (sa : Option Addr) (sc : Nat) (ss : List Sp) (w : World)
    (hb : BdA w b wi hi a xs.length c) (hx : SlA Pc.enc 5 w a xs) (hp : SlA Pu.enc 4 w al ps) (hs : SlA Sp.enc 2 w sa ss) (okp : ∀ p ∈ ps, p.Ok) (hD : (ClkD.mk 0 0 0 none 0 xs none 0 ps none 0 ss none 0).Ok) (hon : ∀ p ∈ ps, onB xs p = true) :
    Calls Try.prog 49 #[.pointer (some ⟨b, 0, none⟩), .slice al ps.length cl, .slice sa ss.length sc] w fun e w' => ∃ X T qa qc, e = .returned (.tuple #[.pointer (some ⟨X.heap.size, 0, none⟩), .int .i64 ((rest (netOf xs ps ss) + 1 : Nat) : Int)]) ∧ Below w.heap.size w w' ∧ T.xs = xs ∧ TmE X w' T (.slice sa ss.length sc) (.slice qa ps.length qc) (rd (netOf xs ps ss) (rest (netOf xs ps ss) + 1)) ∧ Tmg w' ⟨X.heap.size, T, sa, sc, ss, qa, qc, ps⟩ := by
  have hn : xs.length ≤ 60 := hD.n
  have hm : ps.length ≤ 20 := hD.m
  have hN : (netOf xs ps ss).Ok := net_ok hD
  have H1 := hid (stage_I b wi hi a c xs w hb hx (by omega) hD.pc hD.one)
  have H2 := hid (fun W (hB : Below w.heap.size w W) => hitsOf_I b wi hi a c xs al cl ps W (hb.below hB hb.lt) (hx.below hB) (hp.below hB) (by omega) okp)
  have Hs := hid hs
  have g2 := hb.c2
  have hbl := hb.lt
  have HN := hid (fun W => none_I xs.length W (by omega))
  have hmk := make_any (P := Try.prog) 126 136 (.int .u8 0) 1 1 Try.underlying126 (by kernel_rfl) xs.length (by omega) (by omega)
  have HDD := hid hD
  have HON := hid hon
  clear hx hp hs hb okp hD hon
  go_enter Try.func49, Try.ntmps49
  go_wp2_with fail
  refine H1.out.mono ?_
  rintro e w1 ⟨T, rfl, hb1, hxs, hap, hts, hst⟩
  subst hxs
  have HST := hid hst
  clear hst
  go_wp2_with fail
  refine (H2.out _ hb1).mono ?_
  rintro e w2 ⟨qa, qc, rfl, hb2, own2⟩
  have hqq := hid (SlA.of_own (enc := Q4.e64) (n := 4) (fun _ => rfl) own2)
  rw [List.length_map]
  clear own2
  obtain ⟨W3, hW3⟩ : ∃ W, W = w2.alloc (.cells #[.pointer (some ⟨T.sb, 0, none⟩), .slice sa ss.length sc, .slice qa ps.length qc, .slice none 0 0, .slice none 0 0, .slice none 0 0] 128) := ⟨_, rfl⟩
  have b3 : Below w2.heap.size w2 W3 := by rw [hW3]; exact (Below.refl _ _).alloc (Nat.le_refl _) _
  have bw2 := below_then hb1 hb2
  have HBW := hid (below_then bw2 b3)
  have sx3 : Sx w2 W3 (.pointer (some ⟨T.sb, 0, none⟩)) (.slice sa ss.length sc) (.slice qa ps.length qc) (.slice none 0 0) (.slice none 0 0) (.slice none 0 0) := by
    refine ⟨b3, ?_, ?_, ?_, ?_, ?_, ?_, ?_⟩ <;> rw [hW3]
    all_goals first | exact fz_made _ _ _ | simp [go_sem]
  have SF := (⟨cell_on HBW.out g2, sx3.x3, sx3.x4, sx3.x5, sx3.fz⟩ : SixF W3 b w2.heap.size (.slice a T.xs.length c))
  have HSX := hid sx3
  have HSF := hid SF
  have q0 := SF.p0
  have z3 := HSX.out.lt
  have hbt : b ≠ w2.heap.size := by have := bw2.size; omega
  clear SF sx3 b3
  go_upto_region 2 with fail
  rw [← hW3]
  clear hW3
  go_cut [] from 22 to 48 (fun wx => TmE w2 wx T (.slice sa ss.length sc) (.slice qa ps.length qc) (rd (netOf T.xs ps ss) 0))
  case first =>
    go_region_held3 (fun w' => w'.cell? ⟨b, 2, none⟩ = some (.slice a T.xs.length c))
      (first
        | with_reducible assumption
        | exact cell_on hb2' (by with_reducible assumption)
        | exact cell_on hb1' (by with_reducible assumption)
        | exact kp_set hbt (by with_reducible assumption)
        | exact cell_on ((Below.refl _ _).alloc (Nat.le_refl _) _) (by with_reducible assumption)
        | exact cell_on ((Below.refl _ _).drew) q0)
      (first
        | (go_at_call 67; have mark := T1; refine (HN.out _).mono ?_; rintro e v2 ⟨lg, lc, rfl, hb2', hl2, T2, F2⟩; (first | have S2 := six_c HS1.out hb2' | have S2 := six_d HS1.out hb2'); obtain ⟨⟨s0, s1⟩, ⟨s2, s3, s4⟩, ⟨s5, s6, s7⟩, ⟨s8, s9, s10⟩, ⟨s11, s12, s13⟩, ⟨s14, s15, s16, s17⟩, s18, s19⟩ := S2.all)
        | (go_at_call 67; refine (HN.out _).mono ?_; rintro e v1 ⟨eg, ec, rfl, hb1', hl1, T1, F1⟩; (first | have S1 := six_a HSF.out hb1' | have S1 := six_b HSF.out hb1'); have HS1 := hid S1; clear S1))
    all_goals (go_wp2_with fail; go_meet)
    · exact goal1 HSX.out hb1' hl1 T1 hb2' hl2 T2
    · exact goal2 HSX.out hb1' hl1 T1 hb2' hl2 T2
    · exact goal3 HSX.out hb1' hl1 T1 hb2' hl2 T2
    · exact goal4 HSX.out hb1' hl1 T1 hb2' hl2 T2
    · exact goal5 HSX.out hb1' hl1 T1 hb2' hl2 T2
  case rest =>
    have HT0 := hid hcut
    clear hcut
    obtain ⟨K, hK, hKb⟩ := rd_end hN
    have hnl : (netOf T.xs ps ss).n ≤ 60 := hn
    have hbig := hid (show big = 1099511627776 from rfl)
    have hKs : K ≤ 300000000000000 := by
      have := hbig.out
      have h2 : 4 * (netOf T.xs ps ss).n * big ≤ 240 * big := Nat.mul_le_mul_right _ (by omega)
      omega
    clear hKb
    have HCL := hid (show (TmgD.mk w2.heap.size T sa sc ss qa qc ps).clk.Ok from HDD.out)
    have HTM := hid (fun (W : World) V3 V4 V5 (h : Sx w2 W (.pointer (some ⟨T.sb, 0, none⟩)) (.slice sa ss.length sc) (.slice qa ps.length qc) V3 V4 V5) => (⟨h.x0, h.x1, h.x2, (HST.out.below hb2).below h.below, (Hs.out.below bw2).below h.below, hqq.out.below h.below⟩ : Tmg W ⟨w2.heap.size, T, sa, sc, ss, qa, qc, ps⟩))
    have HB2 := hid bw2
    clear HST Hs hqq hb1 hb2 g2 hbl HN q0 HSF hmk
    go_wp2_with fail
    go_loopw [9] (fun rv wr => ∃ k : Nat, k ≤ K ∧ rv = .int .i64 ((k + 1 : Nat) : Int) ∧ (∀ j, j < k → rdSame (netOf T.xs ps ss) j = false) ∧ TmE w2 wr T (.slice sa ss.length sc) (.slice qa ps.length qc) (rd (netOf T.xs ps ss) k)) (fun rv _ => K + 1 - (intOf rv).toNat)
    case atStart => exact ⟨0, Nat.zero_le _, rfl, fun j hj => by omega, HT0.out⟩
    case round =>
      obtain ⟨k, hk, rfl, hno, eg, lg, mg, ec, lc, mc, hS, hE, hL, hM, n1, n2, n3⟩ := hrel
      have hw2 : IntKind.i64.wrap (((k + 1 : Nat) : Int) + 1) = ((k + 1 : Nat) : Int) + 1 := IntWalk.i64_in _ (by omega)
      have HNO := hid hno
      have HS := hid hS
      have HRE := hid hE
      have HRL := hid hL
      have h1 := hid (show Calls Try.prog 68 #[.pointer (some ⟨w2.heap.size, 0, none⟩)] wr fun e w' => ∃ g c m, e = .returned (.tuple #[.slice (some ⟨g, 0, none⟩) T.xs.length c, .slice (some ⟨m, 0, none⟩) T.xs.length T.xs.length]) ∧ Below wr.heap.size wr w' ∧ wr.heap.size ≤ g ∧ wr.heap.size ≤ m ∧ TuA w' g T.xs.length (rd (netOf T.xs ps ss) (k + 1)).E ∧ U8A w' m T.xs.length (fun i => sBits ((rd (netOf T.xs ps ss) (k + 1)).S i))
        from findEarly_I ⟨w2.heap.size, T, sa, sc, ss, qa, qc, ps⟩ wr HCL.out (HTM.out _ _ _ _ hS) (rd (netOf T.xs ps ss) k).L lg lc hS.x4 hL HON.out)
      have zt := hS.lt
      clear hno hS hE hL hM
      go_wp2_with fail
      refine h1.out.mono ?_
      rintro e w3 ⟨g, c3, m, rfl, hb3, hg, hm2, hE3, hM3⟩
      have S3 := HS.out.next hb3
      have t3 := S3.x3
      have HE3 := hid hE3
      have HM3 := hid hM3
      have HS3 := hid S3
      have HL3 := hid (HRL.out.below hb3 HRL.out.lt)
      have z3 := hb3.size
      have hq1 := equal_I g eg T.xs.length c3 ec (rd (netOf T.xs ps ss) (k + 1)).E (rd (netOf T.xs ps ss) k).E w3 (by omega) hE3 (HRE.out.below hb3 HRE.out.lt)
      obtain ⟨d1, hd1⟩ : ∃ d, sameL (4 * T.xs.length) (rd (netOf T.xs ps ss) (k + 1)).E (rd (netOf T.xs ps ss) k).E = d := ⟨_, rfl⟩
      rw [hd1] at hq1
      have HQ1 := hid hq1
      have HD1 := hid hd1
      clear hq1 hd1 S3 hE3 hM3 hb3
      go_wp2_with fail
      refine HQ1.out.mono ?_
      rintro e w4 ⟨rfl, hb4⟩
      have S4 := HS3.out.next hb4
      have t43 := S4.x3
      have t45 := S4.x5
      have f43 := S4.fz 3
      have f45 := S4.fz 5
      obtain ⟨W5, hW5⟩ : ∃ W, W = (w4.setCell ⟨w2.heap.size, 3, none⟩ (.slice (some ⟨g, 0, none⟩) T.xs.length c3)).setCell ⟨w2.heap.size, 5, none⟩ (.slice (some ⟨m, 0, none⟩) T.xs.length T.xs.length) := ⟨_, rfl⟩
      have S5 := (S4.set3 (.slice (some ⟨g, 0, none⟩) T.xs.length c3)).set5 (.slice (some ⟨m, 0, none⟩) T.xs.length T.xs.length)
      have E5 := ((HE3.out.below hb4 HE3.out.lt).setn (tb := w2.heap.size) (j := 3) (by omega) (.slice (some ⟨g, 0, none⟩) T.xs.length c3)).setn (tb := w2.heap.size) (j := 5) (by omega) (.slice (some ⟨m, 0, none⟩) T.xs.length T.xs.length)
      have L5 := ((HL3.out.below hb4 HL3.out.lt).setn (tb := w2.heap.size) (j := 3) n2 (.slice (some ⟨g, 0, none⟩) T.xs.length c3)).setn (tb := w2.heap.size) (j := 5) n2 (.slice (some ⟨m, 0, none⟩) T.xs.length T.xs.length)
      have M5 := ((HM3.out.below hb4).setn (tb := w2.heap.size) (j := 3) (by omega) (.slice (some ⟨g, 0, none⟩) T.xs.length c3)).setn (tb := w2.heap.size) (j := 5) (by omega) (.slice (some ⟨m, 0, none⟩) T.xs.length T.xs.length)
      rw [← hW5] at S5 E5 L5 M5
      have h2 := hid (show Calls Try.prog 70 #[.pointer (some ⟨w2.heap.size, 0, none⟩)] W5 fun e w' => ∃ g c, e = .returned (.slice (some ⟨g, 0, none⟩) T.xs.length c) ∧ Below W5.heap.size W5 w' ∧ W5.heap.size ≤ g ∧ TuA w' g T.xs.length (rd (netOf T.xs ps ss) (k + 1)).L
        from findLate_I ⟨w2.heap.size, T, sa, sc, ss, qa, qc, ps⟩ W5 HCL.out (HTM.out _ _ _ _ S5) (rd (netOf T.xs ps ss) (k + 1)).S m T.xs.length S5.x5 M5 HON.out)
      have HS5 := hid S5
      have HE5 := hid E5
      have HL5 := hid L5
      have HM5 := hid M5
      have z5 := S5.lt
      clear S4 S5 E5 L5 M5 hb4
      go_upto_region 8 with fail
      rw [← hW5]
      clear hW5 t43 t45 f43 f45
      go_wp2_with fail
      refine h2.out.mono ?_
      rintro e w6 ⟨g2, c2, rfl, hb6, hg2, hL6⟩
      have S6 := HS5.out.next hb6
      have HS6 := hid S6
      have E6 := HE5.out.below hb6 HE5.out.lt
      have O6 := HL5.out.below hb6 HL5.out.lt
      have M6 := HM5.out.below hb6
      have HE6 := hid E6
      have HL6 := hid hL6
      have HM6 := hid M6
      have t64 := S6.x4
      have f64 := S6.fz 4
      cases d1
      · have HR := hid (show rdSame (netOf T.xs ps ss) k = false by
          have := HD1.out
          unfold rdSame
          rw [sameL_comm] at this
          rw [show sameL (4 * (netOf T.xs ps ss).n) (rd (netOf T.xs ps ss) k).E (rd (netOf T.xs ps ss) (k + 1)).E = false from this]
          rfl)
        have HF := hid (show TmE w2 (w6.setCell ⟨w2.heap.size, 4, none⟩ (.slice (some ⟨g2, 0, none⟩) T.xs.length c2)) T (.slice sa ss.length sc) (.slice qa ps.length qc) (rd (netOf T.xs ps ss) (k + 1)) from
          ⟨g, g2, m, c3, c2, _, S6.set4 _, E6.setn (by omega) _, hL6.setn (by omega) _, M6.setn (by omega) _, by omega, by omega, by omega⟩)
        have hlt : k < K := by
          rcases Nat.lt_or_ge k K with h | h
          · exact h
          · have : k = K := by omega
            have h1 := HR.out
            rw [this, hK] at h1
            cases h1
        clear S6 E6 O6 M6 hL6
        go_wp2_with fail
        exact ⟨⟨k + 1, by omega, by go_num, none_so_far HNO.out HR.out, HF.out⟩, by simp [intOf]; omega⟩
      · have hq2 := equal_I g2 lg T.xs.length c2 lc (rd (netOf T.xs ps ss) (k + 1)).L (rd (netOf T.xs ps ss) k).L w6 (by omega) hL6 O6
        obtain ⟨d2, hd2⟩ : ∃ d, sameL (4 * T.xs.length) (rd (netOf T.xs ps ss) (k + 1)).L (rd (netOf T.xs ps ss) k).L = d := ⟨_, rfl⟩
        rw [hd2] at hq2
        have HQ2 := hid hq2
        have HR := hid (show rdSame (netOf T.xs ps ss) k = d2 by
          have h1 := HD1.out
          have h2 := hd2
          unfold rdSame
          rw [sameL_comm] at h1 h2
          rw [show sameL (4 * (netOf T.xs ps ss).n) (rd (netOf T.xs ps ss) k).E (rd (netOf T.xs ps ss) (k + 1)).E = true from h1, show sameL (4 * (netOf T.xs ps ss).n) (rd (netOf T.xs ps ss) k).L (rd (netOf T.xs ps ss) (k + 1)).L = d2 from h2]
          rfl)
        clear S6 E6 O6 M6 hL6 hq2 hd2
        go_wp2_with fail
        refine HQ2.out.mono ?_
        rintro e w7 ⟨rfl, hb7⟩
        have S7 := HS6.out.next hb7
        have t74 := S7.x4
        have f74 := S7.fz 4
        have HF := hid (show TmE w2 (w7.setCell ⟨w2.heap.size, 4, none⟩ (.slice (some ⟨g2, 0, none⟩) T.xs.length c2)) T (.slice sa ss.length sc) (.slice qa ps.length qc) (rd (netOf T.xs ps ss) (k + 1)) from
          ⟨g, g2, m, c3, c2, _, S7.set4 _, (HE6.out.below hb7 HE6.out.lt).setn (by omega) _, (HL6.out.below hb7 HL6.out.lt).setn (by omega) _, (HM6.out.below hb7).setn (by omega) _, by omega, by omega, by omega⟩)
        clear S7 hb7
        cases d2
        · have hlt : k < K := by
            rcases Nat.lt_or_ge k K with h | h
            · exact h
            · have : k = K := by omega
              have h1 := HR.out
              rw [this, hK] at h1
              cases h1
          go_wp2_with fail
          exact ⟨⟨k + 1, by omega, by go_num, none_so_far HNO.out HR.out, HF.out⟩, by simp [intOf]; omega⟩
        · have HRQ := hid (rest_eq hN HR.out HNO.out)
          go_wp2_with fail
          refine bodyPost_ret (v := .tuple #[.pointer (some ⟨w2.heap.size, 0, none⟩), .int .i64 ((k + 1 : Nat) : Int)]) (by simp [results, Try.results49, go_sem]) rfl ?_
          rw [HRQ.out]
          exact ⟨w2, T, qa, qc, rfl, by have := HF.out; obtain ⟨_, _, _, _, _, _, s, _⟩ := this; exact HB2.out.trans (s.below.mono HB2.out.size), rfl, HF.out, by have := HF.out; obtain ⟨_, _, _, _, _, _, s, _⟩ := this; exact HTM.out _ _ _ _ s⟩
end Go.Proofs.Ytnabedhhflfepaa
