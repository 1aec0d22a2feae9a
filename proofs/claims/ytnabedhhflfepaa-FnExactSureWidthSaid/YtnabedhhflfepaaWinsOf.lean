/-
  The program's windows of a board that is timed.
  The program's WindowsOf.
  The program's WindowsOf; whether a board, its pushes and spans are right.
  Conditions: the board, its pushes and spans are right. the fields are in their kinds' ranges.
-/
import Derived.Test.YtnabedhhflfepaaTiming
import Derived.Test.YtnabedhhflfepaaVSpans
import Derived.BigQuiet
import Derived.Deep.CutRange
import Derived.Deep.RegionHeld3
namespace Go.Proofs.Ytnabedhhflfepaa
open Go.RowKit
set_option linter.unusedSimpArgs false
set_option linter.unusedVariables false

/-- The clock as a window reads it. -/
structure TmW (w : World) (tb eg lg mg n ec lc mc : Nat) (R : Rd) : Prop where
  x3 : w.cell? ⟨tb, 3, none⟩ = some (.slice (some ⟨eg, 0, none⟩) n ec)
  x4 : w.cell? ⟨tb, 4, none⟩ = some (.slice (some ⟨lg, 0, none⟩) n lc)
  x5 : w.cell? ⟨tb, 5, none⟩ = some (.slice (some ⟨mg, 0, none⟩) n mc)
  e : TuA w eg n R.E
  l : TuA w lg n R.L
  m : U8A w mg n (fun i => sBits (R.S i))
theorem TmW.below {w w1 : World} {tb eg lg mg n ec lc mc : Nat} {R : Rd} (h : TmW w tb eg lg mg n ec lc mc R) (hb : Below w.heap.size w w1) : TmW w1 tb eg lg mg n ec lc mc R :=
  ⟨cell_on hb h.x3, cell_on hb h.x4, cell_on hb h.x5, h.e.below hb h.e.lt, h.l.below hb h.l.lt, h.m.below hb⟩
theorem Wx.fzs {w w1 : World} {g : Nat} (h : Fz w g) (hl : g < w.heap.size) (hb : Below w.heap.size w w1) : Fz w1 g := h.below hb hl
theorem best4_le2 (v : Nat → Nat) (h : ∀ k, v k ≤ big) : best4 v ≤ big := by
  have := h 0
  have := best4_le (f := v) (k := 0) (by omega)
  omega
set_option maxRecDepth 100000 in
set_option maxHeartbeats 2000000 in
theorem window_I (tb eg lg mg n ec lc mc i : Nat) (R : Rd) (w : World) (hn : n ≤ 60) (h : TmW w tb eg lg mg n ec lc mc R) (hi : i < n) (hle : ∀ y, R.E y ≤ big) :
    Calls Try.prog 50 #[.pointer (some ⟨tb, 0, none⟩), .int .i64 i] w fun e w' => e = .returned (.agg #[.int .u8 (sBits (R.S i)), .bool (decide (best4 (fun k => R.L (4 * i + k)) < big)), .int .i64 (dn (minW (R.S i) (fun k => R.E (4 * i + k)) 4)), .int .i64 (dn (best4 fun k => R.L (4 * i + k)))]) ∧ Below w.heap.size w w' := by
  have hii : (i : Int) < (n : Int) := by omega
  have hsb := sBits_in (R.S i)
  have HB4 := hid (fun s (h : s < 4) => sBits_has (R.S i) h)
  have um := h.m.c i hi
  have ue := fun s (hs : s < 4) => h.e.c i s hi hs
  have l0 : w.cell? ⟨lg, i * 4, none⟩ = some (.int .i64 (R.L (4 * i) : Int)) := h.l.c i 0 hi (by omega)
  have l1 : w.cell? ⟨lg, i * 4 + 1, none⟩ = some (.int .i64 (R.L (4 * i + 1) : Int)) := h.l.c i 1 hi (by omega)
  have l2 : w.cell? ⟨lg, i * 4 + 2, none⟩ = some (.int .i64 (R.L (4 * i + 2) : Int)) := h.l.c i 2 hi (by omega)
  have l3 : w.cell? ⟨lg, i * 4 + 3, none⟩ = some (.int .i64 (R.L (4 * i + 3) : Int)) := h.l.c i 3 hi (by omega)
  have x3 := h.x3
  have x4 := h.x4
  have x5 := h.x5
  clear h
  have HLE := hid hle
  generalize R.S i = S at *
  have HL := hid (fun W => leastTk_I (fun k => R.L (4 * i + k)) W)
  obtain ⟨v, hv⟩ : ∃ v, best4 (fun k => R.L (4 * i + k)) = v := ⟨_, rfl⟩
  rw [hv] at HL
  rw [hv]
  generalize hbits : sBits S = bits at *
  have HBI := hid hbits
  clear hbits hle hv
  obtain ⟨W2, hW2⟩ : ∃ W, W = (w.alloc (.cells #[.int .u8 0, .bool false, .int .i64 0, .int .i64 0] 71)).alloc (.cells #[.int .u8 bits, .bool false, .int .i64 (-1), .int .i64 (-1)] 71) := ⟨_, rfl⟩
  have B2 : Below w.heap.size w W2 := by rw [hW2]; exact ((Below.refl _ _).alloc (Nat.le_refl _) _).alloc (by simp) _
  have z2 : W2.heap.size = w.heap.size + 2 := by rw [hW2]; simp
  have wr2 : Wx W2 w.heap.size (.int .u8 0) (.bool false) (.int .i64 0) (.int .i64 0) := by rw [hW2]; exact ⟨by simp [go_sem], by simp [go_sem], by simp [go_sem], by simp [go_sem]⟩
  have wx2 : Wx W2 (w.heap.size + 1) (.int .u8 bits) (.bool false) (.int .i64 (-1)) (.int .i64 (-1)) := by rw [hW2]; exact ⟨by simp [go_sem], by simp [go_sem], by simp [go_sem], by simp [go_sem]⟩
  have fr2 : Fz W2 w.heap.size := by rw [hW2]; exact (fz_made _ _ _).below ((Below.refl _ _).alloc (Nat.le_refl _) _) (by simp)
  have fx2 : Fz W2 (w.heap.size + 1) := by rw [hW2]; intro j; simp [go_sem]
  have a5 := fun o => cell_on ((Below.refl w.heap.size w).alloc (Nat.le_refl _) o) x5
  have am := fun o => cell_on ((Below.refl w.heap.size w).alloc (Nat.le_refl _) o) um
  have HB := hid B2
  have HWR := hid wr2
  have HWX := hid wx2
  have HFR := hid fr2
  have HFX := hid fx2
  go_enter Try.func50, Try.ntmps50
  go_upto_region 2 with fail
  rw [← hW2]
  clear hW2
  have y3 := cell_on B2 x3
  have y4 := cell_on B2 x4
  have y5 := cell_on B2 x5
  have vm := cell_on B2 um
  have ve := fun s (hs : s < 4) => cell_on B2 (ue s hs)
  have l0' := cell_on B2 l0
  have l1' := cell_on B2 l1
  have l2' := cell_on B2 l2
  have l3' := cell_on B2 l3
  have ztb := World.block_lt_of_cell? w ⟨tb, 4, none⟩ x4
  have zlg := World.block_lt_of_cell? w ⟨lg, i * 4, none⟩ l0
  dsimp only at ztb zlg
  clear a5 am x3 x4 x5 um ue l0 l1 l2 l3 B2 wr2 wx2 fr2 fx2
  go_wp2_with fail
  go_loop [6, 17] (fun ev sv => ∃ s : Nat, s ≤ 4 ∧ sv = .int .i64 s ∧ ev = .int .i64 (minW S (fun k => R.E (4 * i + k)) s : Int)) (fun _ sv => 4 - (intOf sv).toNat)
  case atStart => exact ⟨0, Nat.zero_le _, rfl, rfl⟩
  case round =>
    obtain ⟨s, hs4, rfl, rfl⟩ := hrel
    by_cases hlt : s < 4
    · have hds : decide ((s : Int) < 4) = true := by rw [decide_eq_true_iff]; omega
      have hss : (s : Int) < 4 := by omega
      have H1 := hid (fun W => has_V bits s W hsb hlt)
      have hb := HB4.out s hlt
      rw [hb] at H1
      have um : minW S (fun k => R.E (4 * i + k)) (s + 1) = if S s = true then min (minW S (fun k => R.E (4 * i + k)) s) (R.E (4 * i + s)) else minW S (fun k => R.E (4 * i + k)) s := rfl
      have ce := ve s hlt
      have HUM := hid um
      obtain ⟨b1, h1⟩ : ∃ b, S s = b := ⟨_, rfl⟩
      rw [h1] at H1 HUM
      clear h1 hb um
      cases b1
      · go_wp2_with fail
        refine (H1.out _).mono ?_
        rintro e w1 ⟨rfl, rfl⟩
        go_wp2_with fail
        exact ⟨⟨s + 1, by omega, by go_num, by rw [HUM.out]; rfl⟩, by simp [intOf]; omega⟩
      · go_wp2_with fail
        refine (H1.out _).mono ?_
        rintro e w1 ⟨rfl, rfl⟩
        go_wp2_with fail
        refine ⟨⟨s + 1, by omega, by go_num, congrArg (Value.int .i64) ?_⟩, by simp [intOf]; omega⟩
        rw [HUM.out]
        simp only [if_true]
        omega
    · obtain rfl : s = 4 := by omega
      have hds : decide (((4 : Nat) : Int) < 4) = false := by decide
      obtain ⟨mm, hmm⟩ : ∃ m, minW S (fun k => R.E (4 * i + k)) 4 = m := ⟨_, rfl⟩
      rw [hmm]
      have hx0 := HWX.out.x2
      have hf0 := HFX.out 2
      have hmd : decide ((mm : Int) < 1099511627776) = decide (mm < big) := by rw [decide_eq_decide]; exact Int.ofNat_lt (n := mm) (m := big)
      have hvd : decide ((v : Int) < 1099511627776) = decide (v < big) := by rw [decide_eq_decide]; exact Int.ofNat_lt (n := v) (m := big)
      have hdm : dn mm = if decide (mm < big) = true then (mm : Int) else -1 := by unfold dn; simp
      have hdv : dn v = if decide (v < big) = true then (v : Int) else -1 := by unfold dn; simp
      have HMM := hid hmm
      obtain ⟨bm, hbm⟩ : ∃ b, decide (mm < big) = b := ⟨_, rfl⟩
      obtain ⟨bv, hbv⟩ : ∃ b, decide (v < big) = b := ⟨_, rfl⟩
      rw [hbm] at hmd hdm
      rw [hbv] at hvd hdv
      have HDM := hid hdm
      have HDV := hid hdv
      have HBV := hid hbv
      clear ve hdm hdv hbm hbv hmm
      cases bm
      · have WX := HWX.out
        have WR := HWR.out
        have FX := HFX.out
        have FR := HFR.out
        have BX := HB.out
        go_wp2_with fail
        refine (HL.out _).mono ?_
        rintro e w4 ⟨rfl, hb4⟩
        have hx4 := WX.below hb4 WX.lt
        have hr4 := WR.below hb4 WR.lt
        have fx4 := FX.below hb4 WX.lt
        have fr4 := FR.below hb4 WR.lt
        have HB4' := hid (below_of BX BX.size hb4)
        clear WX WR FX FR BX
        cases bv
        · obtain ⟨q0, q1, q2, q3⟩ := hx4
          obtain ⟨s0, s1, s2, s3⟩ := hr4
          have g0 := fr4 0
          have g1 := fr4 1
          have g2 := fr4 2
          have g3 := fr4 3
          clear fx4 fr4
          go_wp2_with fail
          refine bodyPost_ret (by simp [results, Try.results50, go_sem, s0, s1, s2, s3]; rfl) rfl ?_
          rw [HMM.out, HDM.out, HDV.out, HBV.out]
          refine ⟨by simp, ?_⟩
          repeat (refine Below.setCell ?_ (by simp) _)
          exact HB4'.out
        · obtain ⟨q0, q1, q2, q3⟩ := hx4
          obtain ⟨s0, s1, s2, s3⟩ := hr4
          have g0 := fr4 0
          have g1 := fr4 1
          have g2 := fr4 2
          have g3 := fr4 3
          have k1 := fx4 1
          have k3 := fx4 3
          have hvi : (v : Int) < 1099511627776 := by simpa using hvd
          clear fx4 fr4
          go_wp2_with fail
          refine bodyPost_ret (by simp [results, Try.results50, go_sem, s0, s1, s2, s3]; rfl) rfl ?_
          rw [HMM.out, HDM.out, HDV.out, HBV.out]
          refine ⟨by simp, ?_⟩
          repeat (refine Below.setCell ?_ (by simp) _)
          exact HB4'.out
      · have hmi : (mm : Int) < 1099511627776 := by simpa using hmd
        obtain ⟨W3, hW3⟩ : ∃ W, W = W2.setCell ⟨w.heap.size + 1, 2, none⟩ (.int .i64 (mm : Int)) := ⟨_, rfl⟩
        have WX := HWX.out.set2 (.int .i64 (mm : Int))
        have WR : Wx W3 w.heap.size (.int .u8 0) (.bool false) (.int .i64 0) (.int .i64 0) := by rw [hW3]; exact HWR.out.kept (store_grown _ _ _ _) (by simp)
        have FX := HFX.out.set ⟨w.heap.size + 1, 2, none⟩ (.int .i64 (mm : Int))
        have FR : Fz W3 w.heap.size := by rw [hW3]; exact HFR.out.set _ _
        have BX : Below w.heap.size w W3 := by rw [hW3]; exact HB.out.setCell (by simp) _
        rw [← hW3] at WX FX
        have hk : ∀ a V, W2.cell? a = some V → a.block ≠ w.heap.size + 1 → W3.cell? a = some V := fun a V h hne => by rw [hW3]; exact (World.cell?_setCell_other _ _ _ _ (fun e => hne (by rw [← e]))).trans h
        have y4' := hk _ _ y4 (by dsimp only; omega)
        have m0 := hk _ _ l0' (by dsimp only; omega)
        have m1 := hk _ _ l1' (by dsimp only; omega)
        have m2 := hk _ _ l2' (by dsimp only; omega)
        have m3 := hk _ _ l3' (by dsimp only; omega)
        go_upto_region 10 with fail
        rw [← hW3]
        clear hW3 hk
        go_wp2_with fail
        refine (HL.out _).mono ?_
        rintro e w4 ⟨rfl, hb4⟩
        have hx4 := WX.below hb4 WX.lt
        have hr4 := WR.below hb4 WR.lt
        have fx4 := FX.below hb4 WX.lt
        have fr4 := FR.below hb4 WR.lt
        have HB4' := hid (below_of BX BX.size hb4)
        clear WX WR FX FR BX
        cases bv
        · obtain ⟨q0, q1, q2, q3⟩ := hx4
          obtain ⟨s0, s1, s2, s3⟩ := hr4
          have g0 := fr4 0
          have g1 := fr4 1
          have g2 := fr4 2
          have g3 := fr4 3
          clear fx4 fr4
          go_wp2_with fail
          refine bodyPost_ret (by simp [results, Try.results50, go_sem, s0, s1, s2, s3]; rfl) rfl ?_
          rw [HMM.out, HDM.out, HDV.out, HBV.out]
          refine ⟨by simp, ?_⟩
          repeat (refine Below.setCell ?_ (by simp) _)
          exact HB4'.out
        · obtain ⟨q0, q1, q2, q3⟩ := hx4
          obtain ⟨s0, s1, s2, s3⟩ := hr4
          have g0 := fr4 0
          have g1 := fr4 1
          have g2 := fr4 2
          have g3 := fr4 3
          have k1 := fx4 1
          have k3 := fx4 3
          have hvi : (v : Int) < 1099511627776 := by simpa using hvd
          clear fx4 fr4
          go_wp2_with fail
          refine bodyPost_ret (by simp [results, Try.results50, go_sem, s0, s1, s2, s3]; rfl) rfl ?_
          rw [HMM.out, HDM.out, HDV.out, HBV.out]
          refine ⟨by simp, ?_⟩
          repeat (refine Below.setCell ?_ (by simp) _)
          exact HB4'.out
theorem TmE.tmw {X w : World} {T : StgD} {V1 V2 : Value} {R : Rd} (h : TmE X w T V1 V2 R) : ∃ eg lg mg ec lc mc, TmW w X.heap.size eg lg mg T.xs.length ec lc mc R := by
  obtain ⟨eg, lg, mg, ec, lc, mc, s, e, l, m, _⟩ := h
  exact ⟨eg, lg, mg, ec, lc, mc, s.x3, s.x4, s.x5, e, l, m⟩
set_option maxRecDepth 100000 in
set_option maxHeartbeats 2000000 in
theorem windows_I (b : Nat) (wi hi : Int) (a : Option Addr) (c : Nat) (xs : List Pc) (al : Option Addr) (cl : Nat) (ps : List Pu) (sa : Option Addr) (sc : Nat) (ss : List Sp) (w : World)
    (hb : BdA w b wi hi a xs.length c) (hx : SlA Pc.enc 5 w a xs) (hp : SlA Pu.enc 4 w al ps) (hs : SlA Sp.enc 2 w sa ss) (okp : ∀ p ∈ ps, p.Ok) (hD : (ClkD.mk 0 0 0 none 0 xs none 0 ps none 0 ss none 0).Ok) (hon : ∀ p ∈ ps, onB xs p = true) :
    Calls Try.prog 26 #[.pointer (some ⟨b, 0, none⟩), .slice al ps.length cl, .slice sa ss.length sc] w fun e w' => ∃ A c1, e = .returned (.tuple #[.slice A xs.length c1, .int .i64 ((rest (netOf xs ps ss) + 1 : Nat) : Int)]) ∧ Below w.heap.size w w' ∧ w'.ownsRow w.heap.size 71 4 (.slice A xs.length c1) xs.length ((winsOf (netOf xs ps ss)).flatMap Wn.enc) := by
  have hn : xs.length ≤ 60 := hD.n
  have hN : (netOf xs ps ss).Ok := net_ok hD
  have H1 := hid (timing_I b wi hi a c xs al cl ps sa sc ss w hb hx hp hs okp hD hon)
  have g2 := hb.c2
  have HW := hid (show winsOf (netOf xs ps ss) = winL (rd (netOf xs ps ss) (rest (netOf xs ps ss) + 1)).S (rd (netOf xs ps ss) (rest (netOf xs ps ss) + 1)).E (rd (netOf xs ps ss) (rest (netOf xs ps ss) + 1)).L xs.length from rfl)
  have hle := rd_leE hN (rest (netOf xs ps ss) + 1)
  generalize rd (netOf xs ps ss) (rest (netOf xs ps ss) + 1) = R at *
  have HLE := hid hle
  have HR1 := hid H1
  clear hb hx hp hs okp hD hon hN hle
  go_enter Try.func26, Try.ntmps26
  go_wp2_with fail
  refine H1.out.mono ?_
  rintro e w1 ⟨X, T, qa, qc, rfl, hb1, hxs, hT, _⟩
  subst hxs
  obtain ⟨eg, lg, mg, ec, lc, mc, hW⟩ := hT.tmw
  have HTW := hid hW
  have HB1 := hid hb1
  have g3 := cell_on hb1 g2
  have zw := hb1.size
  have zb : b < w1.heap.size := World.block_lt_of_cell? w1 ⟨b, 2, none⟩ g3
  clear hW hT g2
  have a3 := fun o => cell_on ((Below.refl w1.heap.size w1).alloc (Nat.le_refl _) o) g3
  go_wp2_with fail
  go_loopw [10, 25] (fun o i wr => ∃ (k : Nat) (A : Option Addr) (c1 : Nat), k ≤ T.xs.length ∧ i = .int .i64 k ∧ o = .slice A k c1 ∧ wr.ownsRow w1.heap.size 71 4 (.slice A k c1) k ((winL R.S R.E R.L k).flatMap Wn.enc) ∧ Below w1.heap.size w1 wr) (fun _ i _ => T.xs.length - (intOf i).toNat)
  case atStart => exact ⟨0, _, _, Nat.zero_le _, rfl, rfl, by simpa [winL] using World.ownsRow_lit w1 #[] 0 (Nat.le_refl _) (by simp [maxLen]) (by simp), (Below.refl _ _).alloc (Nat.le_refl _) _⟩
  case round =>
    obtain ⟨k, A, c1, hk, rfl, rfl, own, hbl1⟩ := hrel
    obtain ⟨V, hV⟩ : ∃ V, V = wr := ⟨_, rfl⟩
    subst hV
    have Ho := hid own
    have HBL := hid hbl1
    have hz := hbl1.size
    by_cases hlt : k < T.xs.length
    · have hd : decide ((k : Int) < (T.xs.length : Int)) = true := by rw [decide_eq_true_iff]; omega
      have Hw := hid (window_I X.heap.size eg lg mg T.xs.length ec lc mc k R V hn (HTW.out.below hbl1) hlt HLE.out)
      have OKW := hid (show Wn.enc (winG R.S R.E R.L k) = [.int .u8 (sBits (R.S k)), .bool (decide (best4 (fun j => R.L (4 * k + j)) < big)), .int .i64 (dn (minW (R.S k) (fun j => R.E (4 * k + j)) 4)), .int .i64 (dn (best4 fun j => R.L (4 * k + j)))] from rfl)
      generalize sBits (R.S k) = v0 at *
      generalize decide (best4 (fun j => R.L (4 * k + j)) < big) = v1 at *
      generalize dn (minW (R.S k) (fun j => R.E (4 * k + j)) 4) = v2 at *
      generalize dn (best4 fun j => R.L (4 * k + j)) = v3 at *
      clear own hbl1
      go_wp2_with fail
      refine Hw.out.mono ?_
      rintro e w2 ⟨rfl, hb2⟩
      have Ho2 := hid (own_step Ho.out hb2)
      have BL := hid (below_of HBL.out HBL.out.size hb2)
      have hz2 := BL.out.size
      clear hb2
      go_wp2_with (at_builtin; refine app_one (w := w2) 52 71 (.agg Wn.z.enc.toArray) 4 24 Try.underlying52 (by kernel_rfl) rfl (by decide) w1.heap.size _ k _ Ho2.out ?c1 (by decide) hz2 [.int .u8 v0, .bool v1, .int .i64 v2, .int .i64 v3] _ _ rfl rfl rfl _ rfl ?c3 rfl (by intro u hu; simp at hu; rcases hu with rfl | rfl | rfl | rfl <;> rfl) ?_)
      case c1 => omega
      case c3 => rfl
      intro A2 c2 w3 own2 hb2 hg2 hat2
      have HR := hid own2
      have HB2 := hid (BL.out.trans hb2)
      clear own2 hb2 hg2 hat2
      go_wp2_with fail
      refine ⟨⟨k + 1, A2, c2, by omega, by go_num, rfl, ?_, HB2.out⟩, by simp [intOf]; omega⟩
      have := HR.out
      rw [winL, List.flatMap_append, show List.flatMap Wn.enc [winG R.S R.E R.L k] = Wn.enc (winG R.S R.E R.L k) by simp, OKW.out]
      exact this
    · obtain rfl : k = T.xs.length := by omega
      have hd : decide ((T.xs.length : Int) < (T.xs.length : Int)) = false := by rw [decide_eq_false_iff_not]; omega
      go_wp2_with fail
      refine bodyPost_ret (v := .tuple #[.slice A T.xs.length c1, .int .i64 ((rest (netOf T.xs ps ss) + 1 : Nat) : Int)]) (by simp [results, Try.results26, go_sem]) rfl ?_
      rw [HW.out]
      exact ⟨A, c1, rfl, HB1.out.trans (HBL.out.mono zw), own_low Ho.out zw⟩
theorem timed_asked {wi hi : Int} {xs : List Pc} {ps : List Pu} {ss : List Sp} : timedG wi hi xs ((bdOk wi hi xs && pushesOk xs ps) && ValidSpansG wi hi xs ss) = askedG wi hi xs ps ss := by
  unfold timedG askedG timedB
  have h1 : ValidSpansG wi hi xs ss = true → bdOk wi hi xs = true := fun h => by unfold ValidSpansG at h; simp only [Bool.and_eq_true] at h; exact h.1
  cases e1 : ValidSpansG wi hi xs ss
  · simp
  · rw [h1 e1]
    cases pushesOk xs ps
    · simp
    · by_cases h60 : xs.length ≤ 60
      · simp [h60, show ¬ 60 < xs.length by omega]
      · simp [h60, show 60 < xs.length by omega]
end Go.Proofs.Ytnabedhhflfepaa
