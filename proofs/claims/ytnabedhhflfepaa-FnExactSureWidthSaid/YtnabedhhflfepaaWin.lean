/-
  Passes that change nothing have come to the end; what a round is.
  The reference's clock: one round.
  A right board with right pushes and spans: what it tells is right.
  The reference's clock: rounds until nothing changes.
  Windows of a board: what both sides tell of it; when the rounds come to rest.
  Conditions: the pieces, pushes and spans are right; none besides.
-/
import Derived.Test.YtnabedhhflfepaaClkH
import Derived.Deep.RegionHeld3
namespace Go.Proofs.Ytnabedhhflfepaa
set_option linter.unusedSimpArgs false
set_option linter.unusedVariables false
open Go.RowKit

/-- What the rows of ticks hold, read out of a world: the measure of the passes. -/
def rdTick (w : World) (g : Nat) (y : Nat) : Nat := match w.cell? ⟨g, y / 4 * 4 + y % 4, none⟩ with
  | some (.int _ v) => if v < 0 then big else v.toNat
  | _ => 0
theorem rdTick_eq {w : World} {g n : Nat} {E : Nat → Nat} (h : TkA w g n E) (hE : ∀ y, E y ≤ big) {y : Nat} (hy : y < 4 * n) : rdTick w g y = E y := by
  unfold rdTick
  rw [h.c (y / 4) (y % 4) (by omega) (by omega), show 4 * (y / 4) + y % 4 = y by omega]
  dsimp only
  have := hE y
  unfold dn
  split
  · rw [if_neg (by omega)]; omega
  · rw [if_pos (by omega)]; omega
theorem sumE_congr {A B : Nat → Nat} : ∀ m, (∀ y, y < m → A y = B y) → sumE A m = sumE B m
  | 0, _ => rfl
  | m + 1, h => by
    unfold sumE
    rw [sumE_congr m (fun y hy => h y (by omega)), h m (by omega)]
theorem sum_tick {w : World} {g n : Nat} {E : Nat → Nat} (h : TkA w g n E) (hE : ∀ y, E y ≤ big) : sumE (rdTick w g) (4 * n) = sumE E (4 * n) := sumE_congr _ fun y hy => rdTick_eq h hE hy
theorem Bst.done {F : (Nat → Nat) → Nat → Nat} {m : Nat} (hT : Tick F) (hs : Slow F m) {E Ec : Nat → Nat} (h : Bst F m E Ec false m) : Ec = fixp F := by
  funext y
  refine hT.is_fix (fun z => ?_) y
  rcases h.st with ⟨_, h2, h3⟩ | ⟨h4, _⟩
  · rcases Nat.lt_or_ge z m with hz | hz
    · rw [h2]; exact h3 z hz
    · have h5 := h.pre z
      have h6 := h.le z
      have h7 := hs.out Ec z hz
      omega
  · cases h4
theorem Bst.more {F : (Nat → Nat) → Nat → Nat} {m : Nat} {E Ec : Nat → Nat} {y : Nat} (h : Bst F m E Ec true y) : sumE Ec m < sumE E m := by
  rcases h.st with ⟨h4, _⟩ | ⟨_, h2⟩
  · cases h4
  · exact h2
theorem top_pre {F : (Nat → Nat) → Nat → Nat} (hT : Tick F) (z : Nat) : F (fun _ => big) z ≤ (fun _ => big) z := hT.le _ _
def sdTo (E L : Nat → Nat) (S : Nat → Nat → Bool) (k : Nat) (i s : Nat) : Bool := if 4 * i + s < k then mayT E L i s else S i s
theorem SdA.set {w : World} {g n : Nat} {E L : Nat → Nat} {S : Nat → Nat → Bool} {i s : Nat} (h : SdA w g n (sdTo E L S (4 * i + s))) (hi : i < n) (hs : s < 4) : SdA (w.setCell ⟨g, i * 4 + s, none⟩ (.bool (mayT E L i s))) g n (sdTo E L S (4 * i + s + 1)) := by
  refine ⟨by simpa using h.lt, fun j k hj hk => ?_⟩
  by_cases e : j = i ∧ k = s
  · obtain ⟨rfl, rfl⟩ := e
    unfold sdTo
    rw [if_pos (by omega)]
    exact World.cell?_setCell_same _ _ _ (h.c j k hj hk)
  · rw [World.cell?_setCell_other _ _ _ _ (by intro x; simp only [Addr.mk.injEq] at x; omega), h.c j k hj hk]
    unfold sdTo
    by_cases h1 : 4 * j + k < 4 * i + s
    · rw [if_pos h1, if_pos (by omega)]
    · rw [if_neg h1, if_neg (by omega)]
theorem SdA.full {w : World} {g n : Nat} {E L : Nat → Nat} {S : Nat → Nat → Bool} (h : SdA w g n (sdTo E L S (4 * n))) : SdA w g n (mayT E L) :=
  ⟨h.lt, fun i s hi hs => by
    rw [h.c i s hi hs]
    unfold sdTo
    rw [if_pos (by omega)]⟩
theorem SdA.none {w : World} {g n : Nat} {E L : Nat → Nat} {S : Nat → Nat → Bool} (h : SdA w g n S) : SdA w g n (sdTo E L S 0) :=
  ⟨h.lt, fun i s hi hs => by
    rw [h.c i s hi hs]
    unfold sdTo
    rw [if_neg (by omega)]⟩
set_option maxRecDepth 100000 in
set_option maxHeartbeats 2000000 in
theorem round_S (cb eg lg sg ec lc sc : Nat) (D : ClkD) (E L : Nat → Nat) (S : Nat → Nat → Bool) (w : World) (hD : D.Ok) (hN : D.net.Ok) (hc : Clk w cb D) (hq : Apart cb (cb + 1) D) (hsg : Apart sg cb D)
    (k4 : w.cell? ⟨cb, 4, none⟩ = some (.slice (some ⟨eg, 0, none⟩) D.xs.length ec)) (k5 : w.cell? ⟨cb, 5, none⟩ = some (.slice (some ⟨lg, 0, none⟩) D.xs.length lc)) (k6 : w.cell? ⟨cb, 6, none⟩ = some (.slice (some ⟨sg, 0, none⟩) D.xs.length sc))
    (hE : TkA w eg D.xs.length E) (hL : TkA w lg D.xs.length L) (hS : SdA w sg D.xs.length S) (fc : Fz w cb) (fs : Fz w sg) (n1 : eg ≠ cb) (n2 : eg ≠ sg) (n3 : lg ≠ cb) (n4 : lg ≠ sg) (n5 : sg ≠ cb) (lE : ∀ y, E y ≤ big) (lL : ∀ y, L y ≤ big)
    (base : Nat) (hb0 : base ≤ cb) (hb1 : base ≤ sg) :
    Calls Try.prog 37 #[.pointer (some ⟨cb, 0, none⟩)] w fun e w' => ∃ eg' lg' ec' lc', e = .returned (.bool (!(sameL (4 * D.xs.length) E (rdNext D.net L).E && sameL (4 * D.xs.length) L (rdNext D.net L).L))) ∧ Below base w w' ∧ Clk w' cb D ∧
      w'.cell? ⟨cb, 4, none⟩ = some (.slice (some ⟨eg', 0, none⟩) D.xs.length ec') ∧ w'.cell? ⟨cb, 5, none⟩ = some (.slice (some ⟨lg', 0, none⟩) D.xs.length lc') ∧ w'.cell? ⟨cb, 6, none⟩ = some (.slice (some ⟨sg, 0, none⟩) D.xs.length sc) ∧
      TkA w' eg' D.xs.length (rdNext D.net L).E ∧ TkA w' lg' D.xs.length (rdNext D.net L).L ∧ SdA w' sg D.xs.length (rdNext D.net L).S ∧ Fz w' cb ∧ Fz w' sg ∧ eg' ≠ cb ∧ eg' ≠ sg ∧ lg' ≠ cb ∧ lg' ≠ sg := by
  have hn := hD.n
  have hT := early_tick hN L
  have hSl := early_slow hN L
  have hnn : D.net.n = D.xs.length := rfl
  rw [hnn] at hSl
  have hcl := hc.lt
  have hsl := hS.lt
  have hel := hE.lt
  have hll := hL.lt
  have Hn := hid (fun W => none_S D.xs.length W hn)
  go_enter Try.func37, Try.ntmps37
  go_wp2_with fail
  refine (Hn.out _).mono ?_
  rintro e w1 ⟨eg1, c1, rfl, hb1', he1, T1, F1⟩
  obtain ⟨W1, hW1⟩ : ∃ W, W = w1.setCell ⟨cb, 4, none⟩ (.slice (some ⟨eg1, 0, none⟩) D.xs.length c1) := ⟨_, rfl⟩
  have g1 : w.grownBy W1 (some cb) := by rw [hW1]; exact (grown_of _ hb1').trans (store_grown _ _ _ _)
  have c4w := cell_on hb1' k4
  have f4w : w1.frozen? ⟨cb, 4, none⟩ = false := fc.below hb1' hcl 4
  have C1 : Clk W1 cb D := by rw [hW1]; exact (hc.below hb1').turn 4 (by omega) _ hq.bb hq
  have q4 : W1.cell? ⟨cb, 4, none⟩ = some (.slice (some ⟨eg1, 0, none⟩) D.xs.length c1) := by rw [hW1]; exact World.cell?_setCell_same _ _ _ c4w
  have q5 : W1.cell? ⟨cb, 5, none⟩ = some (.slice (some ⟨lg, 0, none⟩) D.xs.length lc) := by rw [hW1, World.cell?_setCell_other _ _ _ _ (by intro x; simp at x)]; exact cell_on hb1' k5
  have q6 : W1.cell? ⟨cb, 6, none⟩ = some (.slice (some ⟨sg, 0, none⟩) D.xs.length sc) := by rw [hW1, World.cell?_setCell_other _ _ _ _ (by intro x; simp at x)]; exact cell_on hb1' k6
  have t1 : TkA W1 eg1 D.xs.length (fun _ => big) := by rw [hW1]; exact T1.kept (store_grown _ _ _ _) (by omega)
  have f1 : Fz W1 eg1 := by rw [hW1]; exact F1.set _ _
  have tE : TkA W1 eg D.xs.length E := hE.kept g1 n1
  have tL : TkA W1 lg D.xs.length L := hL.kept g1 n3
  have tS : SdA W1 sg D.xs.length S := hS.kept g1 n5
  have fS : Fz W1 sg := by rw [hW1]; exact (fs.below hb1' hsl).set _ _
  have fC : Fz W1 cb := by rw [hW1]; exact (fc.below hb1' hcl).set _ _
  have aE : Apart eg1 cb D := Apart.new hc he1
  have bB : Below base w W1 := ((Below.refl base w).trans (hb1'.mono (by omega))).grown (by rw [hW1]; exact store_grown _ _ _ _) (by have := hb1'.size; omega) (fun k hk => by cases hk; exact hb0)
  have H1 := hid C1
  have K1 := hid (And.intro q5 q6)
  have FF := hid (And.intro fS fC)
  clear T1 F1 fS fC
  go_wp2_with fail
  rw [← hW1]
  clear hW1 c4w f4w
  go_loopw [22] (fun _ wr => ∃ Ec, W1.grownBy wr (some eg1) ∧ Fz wr eg1 ∧ TkA wr eg1 D.xs.length Ec ∧ (∀ z, earlyF D.net L Ec z ≤ Ec z) ∧ (∀ z, Ec z ≤ big) ∧ bounded Ec (4 * D.xs.length)) (fun _ wr => sumE (rdTick wr eg1) (4 * D.xs.length))
  case atStart => exact ⟨_, World.grownBy.refl _ _, f1, t1, top_pre hT, fun _ => Nat.le_refl _, bounded_start _⟩
  case round =>
    obtain ⟨Ec, hg, hfz, hT1, hp, hle, hbd⟩ := hrel
    have ce := H1.out.kept hg aE
    have cell1 : ∀ o v, W1.cell? ⟨cb, o, none⟩ = some v → wr.cell? ⟨cb, o, none⟩ = some v := fun o v e => (hg.cell_far ⟨cb, o, none⟩ H1.out.lt (by simpa using aE.cb)).trans e
    have HBt := hid (betterE_S cb eg1 lg c1 lc D Ec L wr hD hN ce aE (by omega) (cell1 _ _ q4) (cell1 _ _ K1.out.1) hT1 (tL.kept hg (by omega)) hfz hp hle hbd)
    have HM := hid (sum_tick hT1 hle)
    have HG := hid hg
    have HC := hid cell1
    clear hg hfz hT1 hp hle hbd ce cell1
    go_wp2_with fail
    refine HBt.out.mono ?_
    rintro e w2 ⟨ch, E1, rfl, hg2, hf2, hE2, hB⟩
    cases ch
    case true =>
      have HB := hid hB
      clear hB
      go_wp2_with fail
      refine ⟨⟨E1, HG.out.trans hg2, hf2, hE2, HB.out.pre, HB.out.le, HB.out.bd⟩, ?_⟩
      rw [HM.out, sum_tick hE2 HB.out.le]
      exact HB.out.more
    case false =>
    have hE1 := hB.done hT hSl
    have G2 := HG.out.trans hg2
    have C2 := H1.out.kept G2 aE
    have cell2 : ∀ o v, W1.cell? ⟨cb, o, none⟩ = some v → w2.cell? ⟨cb, o, none⟩ = some v := fun o v e => (G2.cell_far ⟨cb, o, none⟩ H1.out.lt (by simpa using aE.cb)).trans e
    have r4 := cell2 _ _ q4
    have r5 := cell2 _ _ K1.out.1
    have r6 := cell2 _ _ K1.out.2
    have lE1 : ∀ y, E1 y ≤ big := hB.le
    have uE := tE.kept G2 (by omega)
    have uL := tL.kept G2 (by omega)
    have uS := tS.kept G2 (by omega)
    have bB2 : Below base w w2 := bB.grown G2 (by have := bB.size; omega) (fun k hk => by cases hk; omega)
    have frz : ∀ g, g ≠ eg1 → g < W1.heap.size → Fz W1 g → Fz w2 g := fun g h1 h2 h3 j => (G2.frozen_far ⟨g, j, none⟩ h2 (by simpa using h1)).trans (h3 j)
    have Hfr := hid (And.intro (frz sg (by omega) tS.lt FF.out.1) (frz cb (by omega) H1.out.lt FF.out.2))
    have HR := hid (And.intro r4 (And.intro r5 r6))
    have HU := hid (And.intro uE (And.intro uL uS))
    have H2 := hid C2
    have HE1 := hid hE2
    have HQ := hid hE1
    clear frz r4 r5 r6 uE uL uS C2 cell2 hE2 hB hE1 hf2 hg2 G2 HBt HM HG HC
    go_wp2_with fail
    go_loopw [5] (fun iv wr => ∃ k : Nat, k ≤ D.xs.length ∧ iv = .int .i64 k ∧ w2.grownBy wr (some sg) ∧ Fz wr sg ∧ SdA wr sg D.xs.length (sdTo E1 L S (4 * k))) (fun iv _ => D.xs.length - (intOf iv).toNat)
    case atStart => exact ⟨0, Nat.zero_le _, rfl, World.grownBy.refl _ _, Hfr.out.1, HU.out.2.2.none⟩
    case round =>
      obtain ⟨k, hk, rfl, hg, hfz, hsd⟩ := hrel
      have HG := hid hg
      have HF := hid hfz
      have HS := hid hsd
      clear hg hfz hsd
      by_cases hlt : k < D.xs.length
      · have hd : decide ((k : Int) < (D.xs.length : Int)) = true := by rw [decide_eq_true_iff]; omega
        go_wp2_with fail
        go_loopw [6] (fun sv wr => ∃ s : Nat, s ≤ 4 ∧ sv = .int .i64 s ∧ w2.grownBy wr (some sg) ∧ Fz wr sg ∧ SdA wr sg D.xs.length (sdTo E1 L S (4 * k + s))) (fun sv _ => 4 - (intOf sv).toNat)
        case atStart => exact ⟨0, Nat.zero_le _, rfl, HG.out, HF.out, HS.out⟩
        case round =>
          obtain ⟨s, hs, rfl, hg, hfz, hsd⟩ := hrel
          by_cases hs4 : s < 4
          · have c4 := (hg.cell_far ⟨cb, 4, none⟩ H2.out.lt (by simpa using Ne.symm n5)).trans HR.out.1
            have c5 := (hg.cell_far ⟨cb, 5, none⟩ H2.out.lt (by simpa using Ne.symm n5)).trans HR.out.2.1
            have c6 := (hg.cell_far ⟨cb, 6, none⟩ H2.out.lt (by simpa using Ne.symm n5)).trans HR.out.2.2
            have vE := HE1.out.kept hg (by omega)
            have vL := HU.out.2.1.kept hg n4
            have Hm := hid (fun (W : World) (hB : Below wr.heap.size wr W) => may_S cb eg1 lg D.xs.length c1 lc E1 L k s W hlt hs4 hn (cell_on hB c4) (cell_on hB c5) (vE.below hB vE.lt) (vL.below hB vL.lt))
            have TS := hid (hsd.set hlt hs4)
            have ev := hsd.c k s hlt hs4
            have ef := hfz (k * 4 + s)
            have GS := hid (hg.trans (store_grown wr sg (k * 4 + s) (.bool (mayT E1 L k s))))
            have FS := hid (hfz.set ⟨sg, k * 4 + s, none⟩ (.bool (mayT E1 L k s)))
            generalize mayT E1 L k s = d at *
            have hki : (k : Int) < (D.xs.length : Int) := by omega
            have hsi : (s : Int) < 4 := by omega
            clear hg hfz hsd vE vL c4 c5
            go_wp2_with fail
            go_region_held3 (fun w' => w'.cell? ⟨cb, 6, none⟩ = some (.slice (some ⟨sg, 0, none⟩) D.xs.length sc))
              (first | assumption | go_keep)
              (first | (go_at_call 40; refine (Hm.out _ ((Below.refl _ _).drew)).mono ?_; rintro e w' ⟨rfl, rfl⟩))
            go_wp2_with fail
            exact ⟨⟨s + 1, by omega, by go_num, GS.out.trans (grown_of _ ((Below.refl _ _).drew)), FS.out.below ((Below.refl _ _).drew) TS.out.lt, TS.out.below ((Below.refl _ _).drew) TS.out.lt⟩, by simp [intOf]; omega⟩
          · obtain rfl : s = 4 := by omega
            go_wp2_with fail
            exact ⟨⟨k + 1, by omega, by go_num, hg, hfz, hsd⟩, by simp [intOf]; omega⟩
      · obtain rfl : k = D.xs.length := by omega
        have hd : decide ((D.xs.length : Int) < (D.xs.length : Int)) = false := by rw [decide_eq_false_iff_not]; omega
        have G3 := HG.out
        have cell3 : ∀ o v, w2.cell? ⟨cb, o, none⟩ = some v → wr.cell? ⟨cb, o, none⟩ = some v := fun o v e => (G3.cell_far ⟨cb, o, none⟩ H2.out.lt (by simpa using Ne.symm n5)).trans e
        have r4 := cell3 _ _ HR.out.1
        have r5 := cell3 _ _ HR.out.2.1
        have r6 := cell3 _ _ HR.out.2.2
        have C3 := H2.out.kept G3 hsg
        have fC3 : Fz wr cb := fun j => (G3.frozen_far ⟨cb, j, none⟩ H2.out.lt (by simpa using Ne.symm n5)).trans (Hfr.out.2 j)
        have fS3 := HF.out
        have tS3 := HS.out.full
        have tE3 := HU.out.1.kept G3 n2
        have tL3 := HU.out.2.1.kept G3 n4
        have tE13 := HE1.out.kept G3 (by omega)
        have bB3 : Below base w wr := bB2.grown G3 (by have := bB2.size; omega) (fun k hk => by cases hk; exact hb1)
        have lt3 := C3.lt
        have ltE := tE13.lt
        go_wp2_with fail
        refine (Hn.out _).mono ?_
        rintro e w4 ⟨lg1, c4, rfl, hb4, hl1, T4, F4⟩
        obtain ⟨W5, hW5⟩ : ∃ W, W = w4.setCell ⟨cb, 5, none⟩ (.slice (some ⟨lg1, 0, none⟩) D.xs.length c4) := ⟨_, rfl⟩
        have g5 : wr.grownBy W5 (some cb) := by rw [hW5]; exact (grown_of _ hb4).trans (store_grown _ _ _ _)
        have c5w := cell_on hb4 r5
        have f5w : w4.frozen? ⟨cb, 5, none⟩ = false := fC3.below hb4 lt3 5
        have C5 : Clk W5 cb D := by rw [hW5]; exact (C3.below hb4).turn 5 (by omega) _ hq.bb hq
        have q4 : W5.cell? ⟨cb, 4, none⟩ = some (.slice (some ⟨eg1, 0, none⟩) D.xs.length c1) := by rw [hW5, World.cell?_setCell_other _ _ _ _ (by intro x; simp at x)]; exact cell_on hb4 r4
        have q5 : W5.cell? ⟨cb, 5, none⟩ = some (.slice (some ⟨lg1, 0, none⟩) D.xs.length c4) := by rw [hW5]; exact World.cell?_setCell_same _ _ _ c5w
        have q6 : W5.cell? ⟨cb, 6, none⟩ = some (.slice (some ⟨sg, 0, none⟩) D.xs.length sc) := by rw [hW5, World.cell?_setCell_other _ _ _ _ (by intro x; simp at x)]; exact cell_on hb4 r6
        have t5 : TkA W5 lg1 D.xs.length (fun _ => big) := by rw [hW5]; exact T4.kept (store_grown _ _ _ _) (by omega)
        have f5 : Fz W5 lg1 := by rw [hW5]; exact F4.set _ _
        have aL : Apart lg1 cb D := Apart.new C3 hl1
        have bB5 : Below base w W5 := bB3.grown g5 (by have := bB3.size; omega) (fun k hk => by cases hk; exact hb0)
        have V := hid (And.intro (tE3.kept g5 n1) (And.intro (tL3.kept g5 n3) (And.intro (tE13.kept g5 (by omega)) (tS3.kept g5 n5))))
        have FV := hid (show Fz W5 cb ∧ Fz W5 sg by rw [hW5]; exact ⟨(fC3.below hb4 lt3).set _ _, (fS3.below hb4 tS3.lt).set _ _⟩)
        have H5 := hid C5
        have K5 := hid (And.intro q4 (And.intro q5 q6))
        have ltS := tS3.lt
        have ltE3 := tE3.lt
        have ltL3 := tL3.lt
        have hT2 := late_tick hN (mayT E1 L)
        have hSl2 := late_slow hN (mayT E1 L)
        rw [hnn] at hSl2
        clear T4 F4 tE3 tL3 tE13 tS3 fC3 fS3 C3 C5 r4 r5 r6 cell3 G3 q4 q6
        go_wp2_with fail
        rw [← hW5]
        clear hW5 c5w f5w
        go_loopw [52] (fun _ wr => ∃ Ec, W5.grownBy wr (some lg1) ∧ Fz wr lg1 ∧ TkA wr lg1 D.xs.length Ec ∧ (∀ z, lateF D.net (mayT E1 L) Ec z ≤ Ec z) ∧ (∀ z, Ec z ≤ big) ∧ bounded Ec (4 * D.xs.length)) (fun _ wr => sumE (rdTick wr lg1) (4 * D.xs.length))
        case atStart => exact ⟨_, World.grownBy.refl _ _, f5, t5, top_pre hT2, fun _ => Nat.le_refl _, bounded_start _⟩
        case round =>
          obtain ⟨Ec, hg, hfz, hT1, hp, hle, hbd⟩ := hrel
          have ce := H5.out.kept hg aL
          have cell1 : ∀ o v, W5.cell? ⟨cb, o, none⟩ = some v → wr.cell? ⟨cb, o, none⟩ = some v := fun o v e => (hg.cell_far ⟨cb, o, none⟩ H5.out.lt (by simpa using aL.cb)).trans e
          have HBt := hid (betterL_S cb lg1 sg c4 sc D Ec (mayT E1 L) wr hD hN ce aL (by omega) (cell1 _ _ K5.out.2.1) (cell1 _ _ K5.out.2.2) hT1 (V.out.2.2.2.kept hg (by omega)) hfz hp hle hbd)
          have HM := hid (sum_tick hT1 hle)
          have HG := hid hg
          clear hg hfz hT1 hp hle hbd ce cell1
          go_wp2_with fail
          refine HBt.out.mono ?_
          rintro e w6 ⟨ch, L1, rfl, hg6, hf6, hE6, hB6⟩
          cases ch
          case true =>
            have HB := hid hB6
            clear hB6
            go_wp2_with fail
            refine ⟨⟨L1, HG.out.trans hg6, hf6, hE6, HB.out.pre, HB.out.le, HB.out.bd⟩, ?_⟩
            rw [HM.out, sum_tick hE6 HB.out.le]
            exact HB.out.more
          case false =>
          have hL1 := hB6.done hT2 hSl2
          have G6 := HG.out.trans hg6
          have C6 := H5.out.kept G6 aL
          have cell6 : ∀ o v, W5.cell? ⟨cb, o, none⟩ = some v → w6.cell? ⟨cb, o, none⟩ = some v := fun o v e => (G6.cell_far ⟨cb, o, none⟩ H5.out.lt (by simpa using aL.cb)).trans e
          have r4 := cell6 _ _ K5.out.1
          have r5 := cell6 _ _ K5.out.2.1
          have r6 := cell6 _ _ K5.out.2.2
          have lL1 : ∀ y, L1 y ≤ big := hB6.le
          have uE := V.out.1.kept G6 (by omega)
          have uL := V.out.2.1.kept G6 (by omega)
          have uE1 := V.out.2.2.1.kept G6 (by omega)
          have uS := V.out.2.2.2.kept G6 (by omega)
          have bB6 : Below base w w6 := bB5.grown G6 (by have := bB5.size; omega) (fun k hk => by cases hk; have := bB3.size; omega)
          have fz6 : Fz w6 cb ∧ Fz w6 sg := ⟨fun j => (G6.frozen_far ⟨cb, j, none⟩ H5.out.lt (by simpa using aL.cb)).trans (FV.out.1 j), fun j => (G6.frozen_far ⟨sg, j, none⟩ V.out.2.2.2.lt (by simp; omega)).trans (FV.out.2 j)⟩
          have HS1 := hid (fun (W : World) (hB : Below w6.heap.size w6 W) => settled_S eg eg1 D.xs.length ec c1 E E1 W hn (uE.below hB uE.lt) (uE1.below hB uE1.lt) lE lE1)
          have HS2 := hid (fun (W : World) (hB : Below w6.heap.size w6 W) => settled_S lg lg1 D.xs.length lc c4 L L1 W hn (uL.below hB uL.lt) (hE6.below hB hE6.lt) lL lL1)
          have eE : (rdNext D.net L).E = E1 := HQ.out.symm
          have eS : (rdNext D.net L).S = mayT E1 L := by rw [HQ.out]; rfl
          have eL : (rdNext D.net L).L = L1 := by rw [hL1, HQ.out]; rfl
          have fin : ∀ w7, Below w6.heap.size w6 w7 → Below base w w7 ∧ Clk w7 cb D ∧ w7.cell? ⟨cb, 4, none⟩ = some (.slice (some ⟨eg1, 0, none⟩) D.xs.length c1) ∧ w7.cell? ⟨cb, 5, none⟩ = some (.slice (some ⟨lg1, 0, none⟩) D.xs.length c4) ∧ w7.cell? ⟨cb, 6, none⟩ = some (.slice (some ⟨sg, 0, none⟩) D.xs.length sc) ∧
              TkA w7 eg1 D.xs.length (rdNext D.net L).E ∧ TkA w7 lg1 D.xs.length (rdNext D.net L).L ∧ SdA w7 sg D.xs.length (rdNext D.net L).S ∧ Fz w7 cb ∧ Fz w7 sg ∧ eg1 ≠ cb ∧ eg1 ≠ sg ∧ lg1 ≠ cb ∧ lg1 ≠ sg := by
            intro w7 hB
            rw [eE, eS, eL]
            exact ⟨bB6.trans (hB.mono (by have := C6.lt; omega)), C6.below hB, cell_on hB r4, cell_on hB r5, cell_on hB r6, uE1.below hB uE1.lt, hE6.below hB hE6.lt, uS.below hB uS.lt, fz6.1.below hB C6.lt, fz6.2.below hB uS.lt, by omega, by omega, by omega, by omega⟩
          have Fin := hid fin
          have HX := hid (show ∀ d1 d2 : Bool, sameL (4 * D.xs.length) E E1 = d1 → sameL (4 * D.xs.length) L L1 = d2 → (!(sameL (4 * D.xs.length) E (rdNext D.net L).E && sameL (4 * D.xs.length) L (rdNext D.net L).L)) = !(d1 && d2) by intro d1 d2 h1 h2; rw [eE, eL, h1, h2])
          obtain ⟨d1, hd1⟩ : ∃ d, sameL (4 * D.xs.length) E E1 = d := ⟨_, rfl⟩
          obtain ⟨d2, hd2⟩ : ∃ d, sameL (4 * D.xs.length) L L1 = d := ⟨_, rfl⟩
          have HY := hid (HX.out d1 d2 hd1 hd2)
          rw [hd1] at HS1
          rw [hd2] at HS2
          clear fin hd1 hd2 eE eS eL uE uL uE1 uS fz6 cell6 G6 hE6 hB6 C6 hL1 HX
          cases d1
          · go_wp2_with fail
            refine (HS1.out _ (Below.refl _ _)).mono ?_
            rintro e w7 ⟨rfl, hb7⟩
            go_wp2_with fail
            go_ret
            exact ⟨eg1, lg1, c1, c4, ret_bool HY.out.symm, Fin.out _ hb7⟩
          · go_wp2_with fail
            refine (HS1.out _ (Below.refl _ _)).mono ?_
            rintro e w7 ⟨rfl, hb7⟩
            have r5' := cell_on hb7 r5
            go_wp2_with fail
            refine (HS2.out _ hb7).mono ?_
            rintro e w8 ⟨rfl, hb8⟩
            go_wp2_with fail
            go_ret
            exact ⟨eg1, lg1, c1, c4, ret_bool (by rw [HY.out]; simp), Fin.out _ (below_then hb7 hb8)⟩
theorem nx_opp (x : Int) {s : Nat} (hs : s < 4) : nx (nx x s) (opp s : Nat) = x := by
  have : s = 0 ∨ s = 1 ∨ s = 2 ∨ s = 3 := by omega
  rcases this with rfl | rfl | rfl | rfl <;> simp [nx, opp] <;> omega
theorem ny_opp (y : Int) {s : Nat} (hs : s < 4) : ny (ny y s) (opp s : Nat) = y := by
  have : s = 0 ∨ s = 1 ∨ s = 2 ∨ s = 3 := by omega
  rcases this with rfl | rfl | rfl | rfl <;> simp [ny, opp] <;> omega
theorem own_place {D : ClkD} (hD : D.Ok) {i : Nat} {p : Pc} (h : D.xs[i]? = some p) : idxOf (atC p.x p.y) D.xs = i := by
  refine idxOf_at ?_ h (by simp [atC])
  rw [List.any_eq_false]
  intro q hq hat
  obtain ⟨j, hj, e⟩ := List.mem_take_iff_getElem.1 hq
  have hj2 : D.xs[j]? = some q := by rw [List.getElem?_eq_getElem (by omega), e]
  unfold atC at hat
  simp only [decide_eq_true_eq] at hat
  have := hD.one j i q p hj2 h hat.1 hat.2
  omega
theorem pushV_in {x y s : Int} : ∀ {ps : List Pu}, (∀ p ∈ ps, 0 ≤ p.t ∧ p.t ≤ 1000) → pushV x y s ps ≤ 1000 ∨ pushV x y s ps = big
  | [], _ => .inr rfl
  | p :: ps, h => by
    have ih := pushV_in (x := x) (y := y) (s := s) (ps := ps) (fun q hq => h q (List.mem_cons_of_mem _ hq))
    have hp := h p List.mem_cons_self
    have hle := pushV_le x y s ps
    unfold pushV puVal
    split <;> omega
theorem net_ok {D : ClkD} (hD : D.Ok) : D.net.Ok := by
  refine ⟨fun i s q hi hs h => ?_, fun i => ?_, fun i => ?_, fun i s => ?_⟩
  · have hi' : i < D.xs.length := hi
    have e1 : D.xs[i]? = some D.xs[i] := List.getElem?_eq_getElem hi'
    have hge : 0 ≤ nearI D.xs i s := by
      apply Classical.byContradiction
      intro hn
      rw [near_none (by omega)] at h
      cases h
    have hq : nearI D.xs i s = q := by
      obtain ⟨j, hj, _⟩ := near_nat hge
      rw [near_some hj] at h
      cases h
      exact hj
    have hu : nearI D.xs i s = idxOf (atC (nx D.xs[i].x s) (ny D.xs[i].y s)) D.xs := by unfold nearI; rw [e1]
    rw [hu] at hge hq
    have hany : D.xs.any (atC (nx D.xs[i].x s) (ny D.xs[i].y s)) = true := by
      have := idxOf_ge (atC (nx D.xs[i].x s) (ny D.xs[i].y s)) D.xs
      rw [← this, decide_eq_true_iff]
      exact hge
    obtain ⟨k, x, h1, h2, h3, _⟩ := idxOf_some hany
    have hk : k = q := by omega
    subst hk
    have hkl := (List.getElem?_eq_some_iff.1 h2).1
    refine ⟨hkl, near_some ?_⟩
    unfold atC at h3
    simp only [decide_eq_true_eq] at h3
    unfold nearI
    rw [h2]
    dsimp only
    rw [h3.1, h3.2, nx_opp _ hs, ny_opp _ hs]
    exact own_place hD e1
  · simp only [ClkD.net, netOf]
    cases e : D.ss[i]? with
    | none => simp
    | some x =>
      have := hD.sp x (List.mem_of_getElem? e)
      dsimp only
      omega
  · simp only [ClkD.net, netOf]
    cases e : D.ss[i]? with
    | none => simp
    | some x =>
      have := hD.sp x (List.mem_of_getElem? e)
      dsimp only
      omega
  · simp only [ClkD.net, netOf]
    cases e : D.xs[i]? with
    | none => exact .inr rfl
    | some p => exact pushV_in fun q hq => (hD.pu q hq).2.2.2
theorem sumE_const (c : Nat) : ∀ m, sumE (fun _ => c) m = m * c
  | 0 => by simp [sumE]
  | m + 1 => by unfold sumE; rw [sumE_const c m, Nat.succ_mul]
theorem rd_step {N : Net} (ok : N.Ok) (k : Nat) : rdSame N (k + 1) = true ∨ sumE (rd N (k + 1)).L (4 * N.n) < sumE (rd N k).L (4 * N.n) := by
  by_cases h : sameL (4 * N.n) (rd N k).L (rd N (k + 1)).L = true
  · left
    have e := rd_L_eq ok h
    have e1 : rd N (k + 1 + 1) = rd N (k + 1) := by
      show rdNext N (rd N (k + 1)).L = rdNext N (rd N k).L
      rw [e]
    unfold rdSame
    rw [e1, Bool.and_eq_true]
    exact ⟨sameL_iff.2 fun y _ => rfl, sameL_iff.2 fun y _ => rfl⟩
  · right
    have hd := rd_down ok k
    have : ∃ y, y < 4 * N.n ∧ (rd N (k + 1)).L y < (rd N k).L y := by
      apply Classical.byContradiction
      intro hn
      refine h (sameL_iff.2 fun y hy => ?_)
      have := hd y
      rcases Nat.lt_or_ge ((rd N (k + 1)).L y) ((rd N k).L y) with h1 | h1
      · exact absurd ⟨y, hy, h1⟩ hn
      · omega
    obtain ⟨y, hy, hlt⟩ := this
    have key : ∀ m, sumE (rd N (k + 1)).L m + (if y < m then 1 else 0) ≤ sumE (rd N k).L m := by
      intro m
      induction m with
      | zero => simp [sumE]
      | succ m ih =>
        unfold sumE
        have := hd m
        by_cases h1 : y < m
        · have h2 : y < m + 1 := by omega
          simp only [h1, h2, if_true] at ih ⊢
          omega
        · by_cases h3 : y = m
          · subst h3
            simp only [Nat.lt_irrefl, Nat.lt_succ_self, if_true, if_false] at ih ⊢
            omega
          · have h2 : ¬ y < m + 1 := by omega
            simp only [h1, h2, if_false] at ih ⊢
            omega
    have := key (4 * N.n)
    simp only [hy, if_true] at this
    omega
/-- It ends, and soon. -/
theorem rd_end {N : Net} (ok : N.Ok) : ∃ K, rdSame N K = true ∧ K ≤ 4 * N.n * big + 1 := by
  have : ∀ f k, sumE (rd N k).L (4 * N.n) ≤ f → ∃ K, rdSame N K = true ∧ K ≤ k + f + 1 := by
    intro f
    induction f with
    | zero =>
      intro k hk
      rcases rd_step ok k with h | h
      · exact ⟨_, h, by omega⟩
      · omega
    | succ f ih =>
      intro k hk
      rcases rd_step ok k with h | h
      · exact ⟨_, h, by omega⟩
      · obtain ⟨K, h1, h2⟩ := ih (k + 1) (by omega)
        exact ⟨K, h1, by omega⟩
  obtain ⟨K, h1, h2⟩ := this _ 0 (Nat.le_refl _)
  refine ⟨K, h1, ?_⟩
  have e : sumE (rd N 0).L (4 * N.n) = 4 * N.n * big := sumE_const big _
  omega
theorem none_so_far {p : Nat → Bool} {k : Nat} (h : ∀ j, j < k → p j = false) (e : p k = false) : ∀ j, j < k + 1 → p j = false := by
  intro j hj
  rcases Nat.lt_or_ge j k with h1 | h1
  · exact h j h1
  · obtain rfl : j = k := by omega
    exact e
theorem rd_leE {N : Net} (ok : N.Ok) (k : Nat) : ∀ y, (rd N k).E y ≤ big := by
  cases k with
  | zero => intro y; exact Nat.le_refl _
  | succ k => exact (early_tick ok _).fix_le
/-- The clock with its rows. -/
def CkS (w : World) (base cb : Nat) (D : ClkD) (R : Rd) : Prop := ∃ eg lg sg ec lc sc, Clk w cb D ∧ Apart cb (cb + 1) D ∧ Apart sg cb D ∧
  w.cell? ⟨cb, 4, none⟩ = some (.slice (some ⟨eg, 0, none⟩) D.xs.length ec) ∧ w.cell? ⟨cb, 5, none⟩ = some (.slice (some ⟨lg, 0, none⟩) D.xs.length lc) ∧ w.cell? ⟨cb, 6, none⟩ = some (.slice (some ⟨sg, 0, none⟩) D.xs.length sc) ∧
  TkA w eg D.xs.length R.E ∧ TkA w lg D.xs.length R.L ∧ SdA w sg D.xs.length R.S ∧ Fz w cb ∧ Fz w sg ∧ eg ≠ cb ∧ eg ≠ sg ∧ lg ≠ cb ∧ lg ≠ sg ∧ sg ≠ cb ∧ base ≤ cb ∧ base ≤ sg
theorem round_C (base cb : Nat) (D : ClkD) (k : Nat) (w : World) (hD : D.Ok) (h : CkS w base cb D (rd D.net k)) :
    Calls Try.prog 37 #[.pointer (some ⟨cb, 0, none⟩)] w fun e w' => e = .returned (.bool (!rdSame D.net k)) ∧ Below base w w' ∧ CkS w' base cb D (rd D.net (k + 1)) := by
  have hN := net_ok hD
  obtain ⟨eg, lg, sg, ec, lc, sc, hc, hq, hsg, k4, k5, k6, hE, hL, hS, fc, fs, n1, n2, n3, n4, n5, b0, b1⟩ := h
  refine (round_S cb eg lg sg ec lc sc D (rd D.net k).E (rd D.net k).L (rd D.net k).S w hD hN hc hq hsg k4 k5 k6 hE hL hS fc fs n1 n2 n3 n4 n5 (rd_leE hN k) (rd_le hN k) base b0 b1).mono ?_
  rintro e w' ⟨eg', lg', ec', lc', he, hB, hc', k4', k5', k6', hE', hL', hS', fc', fs', m1, m2, m3, m4⟩
  exact ⟨he, hB, eg', lg', sg, ec', lc', sc, hc', hq, hsg, k4', k5', k6', hE', hL', hS', fc', fs', m1, m2, m3, m4, n5, b0, b1⟩
set_option maxHeartbeats 400000 in
/-- l06Time, given what l06Begin lays. -/
theorem time_of (b : Nat) (al : Option Addr) (cl : Nat) (ps : List Pu) (sa : Option Addr) (sc : Nat) (ss : List Sp) (w : World) (D : Nat → Option Addr → Nat → ClkD) (hD : ∀ x y z, (D x y z).Ok) (N : Net) (hN : ∀ x y z, (D x y z).net = N)
    (hb : Calls Try.prog 36 #[.pointer (some ⟨b, 0, none⟩), .slice al ps.length cl, .slice sa ss.length sc] w fun e w' => ∃ cb x y z, e = .returned (.pointer (some ⟨cb, 0, none⟩)) ∧ Below w.heap.size w w' ∧ CkS w' w.heap.size cb (D x y z) (rd N 0)) :
    Calls Try.prog 16 #[.pointer (some ⟨b, 0, none⟩), .slice al ps.length cl, .slice sa ss.length sc] w fun e w' => ∃ cb x y z k, e = .returned (.tuple #[.pointer (some ⟨cb, 0, none⟩), .int .i64 ((k + 1 : Nat) : Int)]) ∧ rdSame N k = true ∧ (∀ j, j < k → rdSame N j = false) ∧ Below w.heap.size w w' ∧ CkS w' w.heap.size cb (D x y z) (rd N (k + 1)) := by
  have Hb := hid hb
  clear hb
  go_enter Try.func16, Try.ntmps16
  go_wp2_with fail
  refine Hb.out.mono ?_
  rintro e w1 ⟨cb, x, y, z, rfl, hb1, hck⟩
  have okN : N.Ok := by rw [← hN x y z]; exact net_ok (hD x y z)
  have hnl : N.n ≤ 60 := by rw [← hN x y z]; exact (hD x y z).n
  obtain ⟨K, hK, hKb⟩ := rd_end okN
  have hbig := hid (show big = 1099511627776 from rfl)
  have hKs : K ≤ 300000000000000 := by
    have := hbig.out
    have h2 : 4 * N.n * big ≤ 240 * big := Nat.mul_le_mul_right _ (by omega)
    omega
  have HC := hid hck
  clear hck hKb
  go_wp2_with fail
  go_loopw [9] (fun rv wr => ∃ k : Nat, k ≤ K ∧ rv = .int .i64 ((k + 1 : Nat) : Int) ∧ (∀ j, j < k → rdSame N j = false) ∧ Below w.heap.size w wr ∧ CkS wr w.heap.size cb (D x y z) (rd N k)) (fun rv _ => K + 1 - (intOf rv).toNat)
  case atStart => exact ⟨0, Nat.zero_le _, rfl, fun j hj => by omega, hb1, HC.out⟩
  case round =>
    obtain ⟨k, hk, rfl, hno, hbl, hck⟩ := hrel
    have hR := round_C w.heap.size cb (D x y z) k wr (hD x y z) (by rw [hN]; exact hck)
    rw [hN] at hR
    have HR := hid hR
    have HN := hid hno
    obtain ⟨d, hd⟩ : ∃ d, rdSame N k = d := ⟨_, rfl⟩
    rw [hd] at HR
    have HD := hid hd
    have hw2 : IntKind.i64.wrap (((k + 1 : Nat) : Int) + 1) = ((k + 1 : Nat) : Int) + 1 := IntWalk.i64_in _ (by omega)
    clear hR hno hd hck
    cases d
    · have hlt : k < K := by
        rcases Nat.lt_or_ge k K with h | h
        · exact h
        · have : k = K := by omega
          have h1 := HD.out
          rw [this, hK] at h1
          cases h1
      go_wp2_with fail
      refine HR.out.mono ?_
      rintro e w2 ⟨rfl, hb2, hck2⟩
      have HCK := hid hck2
      clear hck2
      go_wp2_with fail
      exact ⟨⟨k + 1, by omega, by go_num, none_so_far HN.out HD.out, hbl.trans hb2, HCK.out⟩, by simp [intOf]; omega⟩
    · go_wp2_with fail
      refine HR.out.mono ?_
      rintro e w2 ⟨rfl, hb2, hck2⟩
      have HCK := hid hck2
      clear hck2
      go_wp2_with fail
      refine bodyPost_ret (v := .tuple #[.pointer (some ⟨cb, 0, none⟩), .int .i64 ((k + 1 : Nat) : Int)]) (by simp [results, Try.results16, go_sem]) rfl ?_
      exact ⟨cb, x, y, z, k, rfl, HD.out, HN.out, hbl.trans hb2, HCK.out⟩
/-- A box of four cells. -/
structure Wx (w : World) (g : Nat) (a b c d : Value) : Prop where
  x0 : w.cell? ⟨g, 0, none⟩ = some a
  x1 : w.cell? ⟨g, 1, none⟩ = some b
  x2 : w.cell? ⟨g, 2, none⟩ = some c
  x3 : w.cell? ⟨g, 3, none⟩ = some d
theorem Wx.set0 {w : World} {g : Nat} {a b c d : Value} (h : Wx w g a b c d) (v : Value) : Wx (w.setCell ⟨g, 0, none⟩ v) g v b c d :=
  ⟨World.cell?_setCell_same _ _ _ h.x0, (World.cell?_setCell_other _ _ _ _ (by intro x; simp at x)).trans h.x1, (World.cell?_setCell_other _ _ _ _ (by intro x; simp at x)).trans h.x2, (World.cell?_setCell_other _ _ _ _ (by intro x; simp at x)).trans h.x3⟩
theorem Wx.set2 {w : World} {g : Nat} {a b c d : Value} (h : Wx w g a b c d) (v : Value) : Wx (w.setCell ⟨g, 2, none⟩ v) g a b v d :=
  ⟨(World.cell?_setCell_other _ _ _ _ (by intro x; simp at x)).trans h.x0, (World.cell?_setCell_other _ _ _ _ (by intro x; simp at x)).trans h.x1, World.cell?_setCell_same _ _ _ h.x2, (World.cell?_setCell_other _ _ _ _ (by intro x; simp at x)).trans h.x3⟩
theorem Wx.set1 {w : World} {g : Nat} {a b c d : Value} (h : Wx w g a b c d) (v : Value) : Wx (w.setCell ⟨g, 1, none⟩ v) g a v c d :=
  ⟨(World.cell?_setCell_other _ _ _ _ (by intro x; simp at x)).trans h.x0, World.cell?_setCell_same _ _ _ h.x1, (World.cell?_setCell_other _ _ _ _ (by intro x; simp at x)).trans h.x2, (World.cell?_setCell_other _ _ _ _ (by intro x; simp at x)).trans h.x3⟩
theorem Wx.set3 {w : World} {g : Nat} {a b c d : Value} (h : Wx w g a b c d) (v : Value) : Wx (w.setCell ⟨g, 3, none⟩ v) g a b c v :=
  ⟨(World.cell?_setCell_other _ _ _ _ (by intro x; simp at x)).trans h.x0, (World.cell?_setCell_other _ _ _ _ (by intro x; simp at x)).trans h.x1, (World.cell?_setCell_other _ _ _ _ (by intro x; simp at x)).trans h.x2, World.cell?_setCell_same _ _ _ h.x3⟩
theorem Wx.lt {w : World} {g : Nat} {a b c d : Value} (h : Wx w g a b c d) : g < w.heap.size := World.block_lt_of_cell? w ⟨g, 0, none⟩ h.x0
theorem Wx.below {w w1 : World} {g B : Nat} {a b c d : Value} (h : Wx w g a b c d) (hb : Below B w w1) (hB : g < B) : Wx w1 g a b c d :=
  ⟨(hb.cell (p := ⟨g, _, none⟩) hB).trans h.x0, (hb.cell (p := ⟨g, _, none⟩) hB).trans h.x1, (hb.cell (p := ⟨g, _, none⟩) hB).trans h.x2, (hb.cell (p := ⟨g, _, none⟩) hB).trans h.x3⟩
theorem Wx.kept {w w1 : World} {g : Nat} {r : Option Nat} {a b c d : Value} (h : Wx w g a b c d) (hg : w.grownBy w1 r) (hne : some g ≠ r) : Wx w1 g a b c d :=
  ⟨(hg.cell_far ⟨g, _, none⟩ h.lt hne).trans h.x0, (hg.cell_far ⟨g, _, none⟩ h.lt hne).trans h.x1, (hg.cell_far ⟨g, _, none⟩ h.lt hne).trans h.x2, (hg.cell_far ⟨g, _, none⟩ h.lt hne).trans h.x3⟩
def bI (b : Bool) : Int := if b = true then 1 else 0
def sBits (f : Nat → Bool) : Int := bI (f 0) + 2 * bI (f 1) + 4 * bI (f 2) + 8 * bI (f 3)
theorem sBits_in (f : Nat → Bool) : 0 ≤ sBits f ∧ sBits f ≤ 15 := by
  unfold sBits
  cases f 0 <;> cases f 1 <;> cases f 2 <;> cases f 3 <;> decide
theorem sBits_or (f : Nat → Bool) {s : Nat} (hs : s < 4) : bits BinOp.or IntKind.u8 (sBits f) (2 ^ s) = sBits (fun k => decide (k = s) || f k) := by
  have : s = 0 ∨ s = 1 ∨ s = 2 ∨ s = 3 := by omega
  unfold sBits
  rcases this with rfl | rfl | rfl | rfl <;> simp only [Nat.reduceEqDiff, decide_true, decide_false, Bool.true_or, Bool.false_or, reduceCtorEq] <;> cases f 0 <;> cases f 1 <;> cases f 2 <;> cases f 3 <;> decide
theorem sBits_has (f : Nat → Bool) {s : Nat} (hs : s < 4) : bitI (sBits f) s = f s := by
  have : s = 0 ∨ s = 1 ∨ s = 2 ∨ s = 3 := by omega
  unfold sBits
  rcases this with rfl | rfl | rfl | rfl <;> cases f 0 <;> cases f 1 <;> cases f 2 <;> cases f 3 <;> decide
theorem sBits_none : sBits (fun _ => false) = 0 := rfl
theorem sBits_congr {f g : Nat → Bool} (h : ∀ k, k < 4 → f k = g k) : sBits f = sBits g := by
  unfold sBits
  rw [h 0 (by omega), h 1 (by omega), h 2 (by omega), h 3 (by omega)]
def upTo (f : Nat → Bool) (s : Nat) (j : Nat) : Bool := decide (j < s) && f j
theorem upTo_zero (f : Nat → Bool) : sBits (upTo f 0) = 0 := by
  have : upTo f 0 = fun _ => false := by funext j; simp [upTo]
  rw [this]; rfl
theorem upTo_four (f : Nat → Bool) : sBits (upTo f 4) = sBits f := sBits_congr fun k hk => by unfold upTo; rw [decide_eq_true hk]; rfl
theorem upTo_no {f : Nat → Bool} {s : Nat} (h : f s = false) : upTo f (s + 1) = upTo f s := by
  funext j
  unfold upTo
  by_cases e : j = s
  · subst e; rw [h]; simp
  · rw [show decide (j < s + 1) = decide (j < s) by rw [decide_eq_decide]; omega]
theorem upTo_yes {f : Nat → Bool} {s : Nat} (hs : s < 4) (h : f s = true) : bits BinOp.or IntKind.u8 (sBits (upTo f s)) (2 ^ s) = sBits (upTo f (s + 1)) := by
  rw [sBits_or _ hs]
  congr 1
  funext j
  unfold upTo
  by_cases e : j = s
  · subst e; rw [h]; simp
  · rw [show decide (j < s + 1) = decide (j < s) by rw [decide_eq_decide]; omega, decide_eq_false e, Bool.false_or]
theorem four_of {s : Nat} (h : s < 4) : s = 0 ∨ s = 1 ∨ s = 2 ∨ s = 3 := by omega
def minW (f : Nat → Bool) (E : Nat → Nat) : Nat → Nat
  | 0 => big
  | k + 1 => if f k = true then min (minW f E k) (E k) else minW f E k
theorem minW_le (f : Nat → Bool) (E : Nat → Nat) : ∀ k, minW f E k ≤ big
  | 0 => Nat.le_refl _
  | k + 1 => by have := minW_le f E k; unfold minW; split <;> omega
theorem minW_congr {f g : Nat → Bool} {E E' : Nat → Nat} : ∀ m, (∀ k, k < m → f k = g k ∧ E k = E' k) → minW f E m = minW g E' m
  | 0, _ => rfl
  | m + 1, h => by
    unfold minW
    rw [minW_congr m (fun k hk => h k (by omega)), (h m (by omega)).1, (h m (by omega)).2]
def winG (M : Nat → Nat → Bool) (E L : Nat → Nat) (i : Nat) : Wn :=
  ⟨sBits (M i), decide (best4 (fun k => L (4 * i + k)) < big), dn (minW (M i) (fun k => E (4 * i + k)) 4), dn (best4 fun k => L (4 * i + k))⟩
def winL (M : Nat → Nat → Bool) (E L : Nat → Nat) : Nat → List Wn
  | 0 => []
  | k + 1 => winL M E L k ++ [winG M E L k]
theorem winL_length (M : Nat → Nat → Bool) (E L : Nat → Nat) : ∀ k, (winL M E L k).length = k
  | 0 => rfl
  | k + 1 => by simp [winL, winL_length M E L k]
/-- The first round that changes nothing, sought with fuel. -/
def restF (N : Net) : Nat → Nat → Nat
  | 0, k => k
  | f + 1, k => if rdSame N k = true then k else restF N f (k + 1)
theorem restF_eq {N : Net} {K : Nat} (h1 : rdSame N K = true) (h2 : ∀ j, j < K → rdSame N j = false) : ∀ f k, k ≤ K → K < k + f → restF N f k = K
  | 0, k, hk, hf => by omega
  | f + 1, k, hk, hf => by
    unfold restF
    by_cases e : k = K
    · subst e
      rw [if_pos h1]
    · rw [if_neg (by rw [h2 k (by omega)]; simp)]
      exact restF_eq h1 h2 f (k + 1) (by omega) (by omega)
def restB (N : Net) : Nat := 4 * N.n * big + 2
theorem restB_def (N : Net) : restB N = 4 * N.n * big + 2 := rfl
def rest (N : Net) : Nat := restF N (restB N) 0
theorem first_of {p : Nat → Bool} : ∀ K, p K = true → ∃ k, k ≤ K ∧ p k = true ∧ ∀ j, j < k → p j = false := by
  intro K
  induction K using Nat.strongRecOn with
  | _ K ih =>
    intro h
    by_cases hx : ∃ j, j < K ∧ p j = true
    · obtain ⟨j, hj, hp⟩ := hx
      obtain ⟨k, h1, h2, h3⟩ := ih j hj hp
      exact ⟨k, by omega, h2, h3⟩
    · refine ⟨K, Nat.le_refl _, h, fun j hj => ?_⟩
      cases e : p j with
      | false => rfl
      | true => exact absurd ⟨j, hj, e⟩ hx
theorem rest_eq {N : Net} (ok : N.Ok) {K : Nat} (h1 : rdSame N K = true) (h2 : ∀ j, j < K → rdSame N j = false) : rest N = K := by
  obtain ⟨K', h3, h4⟩ := rd_end ok
  have hle : K ≤ K' := by
    rcases Nat.lt_or_ge K' K with h | h
    · rw [h2 K' h] at h3; cases h3
    · exact h
  exact restF_eq h1 h2 _ 0 (Nat.zero_le _) (by rw [restB_def]; omega)
theorem rest_is {N : Net} (ok : N.Ok) : rdSame N (rest N) = true ∧ (∀ j, j < rest N → rdSame N j = false) ∧ rest N ≤ 4 * N.n * big + 1 := by
  obtain ⟨K', h3, h4⟩ := rd_end ok
  obtain ⟨k, h5, h6, h7⟩ := first_of (p := rdSame N) K' h3
  rw [rest_eq ok h6 h7]
  exact ⟨h6, h7, by omega⟩
/-- The windows at rest. -/
def winsOf (N : Net) : List Wn := winL (rd N (rest N + 1)).S (rd N (rest N + 1)).E (rd N (rest N + 1)).L N.n
theorem winsOf_length (N : Net) : (winsOf N).length = N.n := winL_length _ _ _ _
/-- From which sides a piece may fall stands, at rest. -/
theorem may_rest {N : Net} (ok : N.Ok) {K : Nat} (h : rdSame N K = true) : mayT (rd N (K + 1)).E (rd N (K + 1)).L = (rd N (K + 1)).S := by
  unfold rdSame at h
  rw [Bool.and_eq_true] at h
  have e := rd_L_eq ok h.2
  have : (rd N (K + 1)).S = mayT (rd N (K + 1)).E (rd N K).L := rfl
  rw [this, e]
end Go.Proofs.Ytnabedhhflfepaa
