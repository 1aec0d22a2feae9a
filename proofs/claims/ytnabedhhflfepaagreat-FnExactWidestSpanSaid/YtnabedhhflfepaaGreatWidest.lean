/-
  WidestSpan, both the program's and the reference's.
  Conditions: the fields are in their kinds' ranges.
-/
import Derived.Test.YtnabedhhflfepaaGreatWideLaw
import Derived.BigQuiet
namespace Go.Proofs.YtnabedhhflfepaaGreat
open Go.RowKit
set_option linter.unusedSimpArgs false
set_option linter.unusedVariables false

set_option maxHeartbeats 4000000 in
theorem WidestSpan_I (w : World) (wi hi : Int) (wl : -128 ≤ wi) (wu : wi ≤ 127) (hl : -128 ≤ hi) (hu : hi ≤ 127) (a : Option Addr) (c : Nat) (xs : List Pc) (h : SlA Pc.enc 5 w a xs) (ha : a = none → c = 0) (ok : ∀ p ∈ xs, p.Ok) (hxl : xs.length ≤ 1048576) (al : Option Addr) (cl : Nat) (ps : List Pu) (hp : SlA Pu.enc 4 w al ps) (hal : al = none → cl = 0) (okp : ∀ p ∈ ps, p.Ok) (hpl : ps.length ≤ 1048576) (sa : Option Addr) (sc : Nat) (ss : List Sp) (hs : SlA Sp.enc 2 w sa ss) (hsa : sa = none → sc = 0) (oks : ∀ p ∈ ss, p.Ok) (hsl : ss.length ≤ 1048576) :
    Calls Tryz.prog 14 #[.agg #[.int .i8 wi, .int .i8 hi, .slice a xs.length c], .slice al ps.length cl, .slice sa ss.length sc] w fun e w' => e = .returned (.tuple #[.int .i64 (WidestSpanG wi hi xs ps ss).1, .int .i64 (WidestSpanG wi hi xs ps ss).2.1, .int .i64 (WidestSpanG wi hi xs ps ss).2.2]) ∧ Below w.heap.size w w' := by
  obtain ⟨W0, hW0⟩ : ∃ W, W = w.alloc (.cells #[.int .i8 wi, .int .i8 hi, .slice a xs.length c] 35) := ⟨_, rfl⟩
  have B0 : Below w.heap.size w W0 := by rw [hW0]; exact (Below.refl _ _).alloc (Nat.le_refl _) _
  have H1 := WindowsOf_I W0 wi hi wl wu hl hu a c xs (h.below B0) ha ok hxl al cl ps (hp.below B0) hal okp hpl sa sc ss (hs.below B0) hsa oks hsl
  have HC := wins_cd wi hi xs ps ss
  have HFT := hid (wins_fit wi hi xs ps ss)
  have hRl := WindowsOf_len wi hi xs ps ss hxl
  have HG := hid (show WidestSpanG wi hi xs ps ss = (if (WindowsOfG wi hi xs ps ss).2.2 = 0 then
    if (wideR (WindowsOfG wi hi xs ps ss).1 (WindowsOfG wi hi xs ps ss).1.length).1 < 0 then (0, 0, 6)
    else ((wideR (WindowsOfG wi hi xs ps ss).1 (WindowsOfG wi hi xs ps ss).1.length).1, (wideR (WindowsOfG wi hi xs ps ss).1 (WindowsOfG wi hi xs ps ss).1.length).2, 0)
  else (0, 0, (WindowsOfG wi hi xs ps ss).2.2)) from rfl)
  generalize (WindowsOfG wi hi xs ps ss).1 = R at *
  generalize (WindowsOfG wi hi xs ps ss).2.1 = sd at *
  generalize (WindowsOfG wi hi xs ps ss).2.2 = cd at *
  have H1 := hid H1
  have HB0 := hid B0
  clear h hp hs B0
  rcases HC with rfl | ⟨hcd, rfl⟩
  · go_enter Tryz.func14, Tryz.ntmps14
    go_wp2_with fail
    rw [← hW0]
    clear hW0
    refine H1.out.mono ?_
    rintro e w1 ⟨A, c1, rfl, hb1, own⟩
    have HR := hid (SlA.of_own (enc := Wn.enc) (n := 4) (fun _ => rfl) own)
    have B1 := below_of HB0.out HB0.out.size hb1
    have z1 := B1.size
    have HB1 := hid B1
    clear own hb1 B1
    go_wp2_with fail
    go_loopw [12, 13, 29] (fun bv mv iv wr => ∃ k : Nat, k ≤ R.length ∧ iv = .int .i64 k ∧ bv = .int .i64 (wideR R k).1 ∧ mv = .int .i64 (wideR R k).2 ∧ Below w1.heap.size w1 wr) (fun _ _ iv _ => R.length - (intOf iv).toNat)
    case atStart => exact ⟨0, Nat.zero_le _, rfl, rfl, rfl, Below.refl _ _⟩
    case round =>
      obtain ⟨k, hk, rfl, rfl, rfl, hbl⟩ := hrel
      obtain ⟨V, hV⟩ : ∃ V, V = wr := ⟨_, rfl⟩
      subst hV
      have hin := wideR_in HFT.out k hk
      have HBL := hid hbl
      have hz := hbl.size
      by_cases hlt : k < R.length
      · have hd : decide ((k : Int) < (R.length : Int)) = true := by rw [decide_eq_true_iff]; omega
        have hki : (k : Int) < (R.length : Int) := by omega
        obtain ⟨b1, o1, rfl, hb1, hc1⟩ := (HR.out.below hbl).cells (by omega)
        have e1 : R[k]? = some R[k] := List.getElem?_eq_getElem hlt
        have hfit := HFT.out _ (List.getElem_mem hlt)
        have Hp := hid e1
        clear e1
        generalize R[k] = p at *
        have f0 : V.cell? ⟨b1, o1 + k * 4, none⟩ = some (.int .u8 p.si) := hc1 k _ Hp.out 0 _ rfl
        have f1 : V.cell? ⟨b1, o1 + k * 4 + 1, none⟩ = some (.bool p.su) := hc1 k _ Hp.out 1 _ rfl
        have f2 : V.cell? ⟨b1, o1 + k * 4 + 2, none⟩ = some (.int .i64 p.ea) := hc1 k _ Hp.out 2 _ rfl
        have f3 : V.cell? ⟨b1, o1 + k * 4 + 3, none⟩ = some (.int .i64 p.la) := hc1 k _ Hp.out 3 _ rfl
        obtain ⟨hsi, ⟨ea0, ea1⟩, ⟨la0, la1⟩, hsu, hle⟩ := hfit
        have HLE := hid hle
        have HY := hid (wideR_yes (R := R) (k := k) Hp.out)
        have HN := hid (wideR_no (R := R) (k := k) Hp.out)
        obtain ⟨u, hu1⟩ : ∃ u, wideR R k = u := ⟨_, rfl⟩
        rw [hu1] at hin
        rw [hu1] at HY HN
        rw [hu1]
        obtain ⟨bi, mo⟩ := u
        dsimp only at hin HY HN
        have hm0 : -1 ≤ mo := by omega
        have hm1 : mo ≤ 1099511627776 := by omega
        have BX : ∀ o, Below V.heap.size V (V.alloc o) := fun o => (Below.refl _ _).alloc (Nat.le_refl _) o
        have HBX := hid BX
        have hwr : IntKind.i64.wrap (p.la - p.ea) = p.la - p.ea := IntWalk.i64_in _ (by omega)
        obtain ⟨si, su, ea, la⟩ := p
        dsimp only at f0 f1 f2 f3 ea0 ea1 la0 la1 HLE HY HN hwr
        obtain ⟨df, hdf⟩ : ∃ d, la - ea = d := ⟨_, rfl⟩
        rw [hdf] at hwr HY HN
        have HDF := hid hdf
        have Hend := hid (fun (v : Int × Int) (hv : wideR R (k + 1) = v) (w2 : World) (hB : Below V.heap.size V w2) => show ∃ k' : Nat, k' ≤ R.length ∧ Value.int .i64 ((k : Int) + 1) = .int .i64 k' ∧ Value.int .i64 v.1 = .int .i64 (wideR R k').1 ∧ Value.int .i64 v.2 = .int .i64 (wideR R k').2 ∧ Below w1.heap.size w1 w2 from ⟨k + 1, by omega, by go_num, by rw [hv], by rw [hv], below_of HBL.out hz hB⟩)
        have hms : k + 1 ≤ R.length := by omega
        clear hc1 hbl BX hu1 hsu hle
        cases su
        · go_wp2_with fail
          exact ⟨Hend.out (bi, mo) (HN.out (by simp)) _ (HBX.out _), by simp [intOf]; omega⟩
        · have hdf0 : 0 ≤ df := by have := HLE.out rfl; have := HDF.out; omega
          have hdf1 : df ≤ 1099511627776 := by have := HDF.out; omega
          by_cases hgt : mo < df
          · have hg1 : decide (mo < df) = true := decide_eq_true hgt
            have hg2 : decide (df > mo) = true := decide_eq_true hgt
            have HYY := hid (HY.out rfl hgt)
            rcases hin with ⟨rfl, rfl⟩ | ⟨hb0, hb1, hb2, hb3⟩
            · go_wp2_with fail
              go_quiet (fail)
              go_wp2_with fail
              exact ⟨Hend.out ((k : Int), df) HYY.out _ (below_drewN (HBX.out _) _), by simp [intOf]; omega⟩
            · have hne : ¬ bi = -1 := by omega
              have hne1 : decide (bi = -1) = false := decide_eq_false hne
              have hne2 : (bi == -1) = false := by simpa using hne
              go_wp2_with fail
              go_quiet (fail)
              go_wp2_with fail
              exact ⟨Hend.out ((k : Int), df) HYY.out _ (below_drewN (HBX.out _) _), by simp [intOf]; omega⟩
          · have hg1 : decide (mo < df) = false := decide_eq_false hgt
            have hg2 : decide (df > mo) = false := decide_eq_false hgt
            have HNN := hid (HN.out (fun hx => hgt hx.2))
            rcases hin with ⟨rfl, rfl⟩ | ⟨hb0, hb1, hb2, hb3⟩
            · omega
            · have hne : ¬ bi = -1 := by omega
              have hne1 : decide (bi = -1) = false := decide_eq_false hne
              have hne2 : (bi == -1) = false := by simpa using hne
              go_wp2_with fail
              exact ⟨Hend.out (bi, mo) HNN.out _ (HBX.out _), by simp [intOf]; omega⟩
      · obtain rfl : k = R.length := by omega
        have hd : decide ((R.length : Int) < (R.length : Int)) = false := by rw [decide_eq_false_iff_not]; omega
        obtain ⟨u, hu1⟩ : ∃ u, wideR R R.length = u := ⟨_, rfl⟩
        rw [hu1] at hin HG
        rw [hu1]
        obtain ⟨bi, mo⟩ := u
        dsimp only at hin HG
        clear hu1 hbl
        rcases hin with ⟨rfl, rfl⟩ | ⟨hb0, hb1, hb2, hb3⟩
        · have HG2 := hid (show WidestSpanG wi hi xs ps ss = (0, 0, 6) from HG.out.trans (by simp))
          clear HG
          go_wp2_with fail
          go_ret3
          rw [HG2.out]
          exact ⟨rfl, HB1.out.trans (HBL.out.mono z1)⟩
        · have hne : ¬ bi = -1 := by omega
          have hne1 : decide (bi = -1) = false := decide_eq_false hne
          have hne2 : (bi == -1) = false := by simpa using hne
          have hlt0 : ¬ bi < 0 := by omega
          have hlt1 : decide (bi < 0) = false := decide_eq_false hlt0
          have HG2 := hid (show WidestSpanG wi hi xs ps ss = (bi, mo, 0) from HG.out.trans (by simp [hlt0]))
          clear HG
          go_wp2_with fail
          refine bodyPost_ret (v := .tuple #[.int .i64 bi, .int .i64 mo, .int .i64 0]) (by simp [results, Tryz.results14, go_sem]) rfl ?_
          rw [HG2.out]
          exact ⟨rfl, HB1.out.trans (HBL.out.mono z1)⟩
  · rcases hcd with rfl | rfl
    all_goals (
      go_enter Tryz.func14, Tryz.ntmps14
      go_wp2_with fail
      rw [← hW0]
      clear hW0
      refine H1.out.mono ?_
      rintro e w1 ⟨A, c1, rfl, hb1, own⟩
      have B1 := below_of HB0.out HB0.out.size hb1
      have HG2 := HG.out.trans (if_neg (by decide))
      clear own HG
      go_wp2_with fail
      go_ret3
      rw [HG2]
      exact ⟨rfl, B1⟩)
set_option maxHeartbeats 4000000 in
theorem WidestSpan_S (w : World) (wi hi : Int) (wl : -128 ≤ wi) (wu : wi ≤ 127) (hl : -128 ≤ hi) (hu : hi ≤ 127) (a : Option Addr) (c : Nat) (xs : List Pc) (h : SlA Pc.enc 5 w a xs) (ha : a = none → c = 0) (ok : ∀ p ∈ xs, p.Ok) (hxl : xs.length ≤ 1048576) (al : Option Addr) (cl : Nat) (ps : List Pu) (hp : SlA Pu.enc 4 w al ps) (hal : al = none → cl = 0) (okp : ∀ p ∈ ps, p.Ok) (hpl : ps.length ≤ 1048576) (sa : Option Addr) (sc : Nat) (ss : List Sp) (hs : SlA Sp.enc 2 w sa ss) (hsa : sa = none → sc = 0) (oks : ∀ p ∈ ss, p.Ok) (hsl : ss.length ≤ 1048576) :
    Calls Tryz.prog 10 #[.agg #[.int .i8 wi, .int .i8 hi, .slice a xs.length c], .slice al ps.length cl, .slice sa ss.length sc] w fun e w' => e = .returned (.tuple #[.int .i64 (WidestSpanG wi hi xs ps ss).1, .int .i64 (WidestSpanG wi hi xs ps ss).2.1, .int .i64 (WidestSpanG wi hi xs ps ss).2.2]) ∧ Below w.heap.size w w' := by
  obtain ⟨W0, hW0⟩ : ∃ W, W = w.alloc (.cells #[.int .i8 wi, .int .i8 hi, .slice a xs.length c] 35) := ⟨_, rfl⟩
  have B0 : Below w.heap.size w W0 := by rw [hW0]; exact (Below.refl _ _).alloc (Nat.le_refl _) _
  have H1 := WindowsOf_S W0 wi hi wl wu hl hu a c xs (h.below B0) ha ok hxl al cl ps (hp.below B0) hal okp hpl sa sc ss (hs.below B0) hsa oks hsl
  have HC := wins_cd wi hi xs ps ss
  have HFT := hid (wins_fit wi hi xs ps ss)
  have hRl := WindowsOf_len wi hi xs ps ss hxl
  have HG := hid (show WidestSpanG wi hi xs ps ss = (if (WindowsOfG wi hi xs ps ss).2.2 = 0 then
    if (wideR (WindowsOfG wi hi xs ps ss).1 (WindowsOfG wi hi xs ps ss).1.length).1 < 0 then (0, 0, 6)
    else ((wideR (WindowsOfG wi hi xs ps ss).1 (WindowsOfG wi hi xs ps ss).1.length).1, (wideR (WindowsOfG wi hi xs ps ss).1 (WindowsOfG wi hi xs ps ss).1.length).2, 0)
  else (0, 0, (WindowsOfG wi hi xs ps ss).2.2)) from rfl)
  generalize (WindowsOfG wi hi xs ps ss).1 = R at *
  generalize (WindowsOfG wi hi xs ps ss).2.1 = sd at *
  generalize (WindowsOfG wi hi xs ps ss).2.2 = cd at *
  have H1 := hid H1
  have HB0 := hid B0
  clear h hp hs B0
  rcases HC with rfl | ⟨hcd, rfl⟩
  · go_enter Tryz.func10, Tryz.ntmps10
    go_wp2_with fail
    rw [← hW0]
    clear hW0
    refine H1.out.mono ?_
    rintro e w1 ⟨A, c1, rfl, hb1, own⟩
    have HR := hid (SlA.of_own (enc := Wn.enc) (n := 4) (fun _ => rfl) own)
    have B1 := below_of HB0.out HB0.out.size hb1
    have z1 := B1.size
    have HB1 := hid B1
    clear own hb1 B1
    go_wp2_with fail
    go_loopw [12, 13, 14] (fun bv mv iv wr => ∃ k : Nat, k ≤ R.length ∧ iv = .int .i64 k ∧ bv = .int .i64 (wideR R k).1 ∧ mv = .int .i64 (wideR R k).2 ∧ Below w1.heap.size w1 wr) (fun _ _ iv _ => R.length - (intOf iv).toNat)
    case atStart => exact ⟨0, Nat.zero_le _, rfl, rfl, rfl, Below.refl _ _⟩
    case round =>
      obtain ⟨k, hk, rfl, rfl, rfl, hbl⟩ := hrel
      obtain ⟨V, hV⟩ : ∃ V, V = wr := ⟨_, rfl⟩
      subst hV
      have hin := wideR_in HFT.out k hk
      have HBL := hid hbl
      have hz := hbl.size
      by_cases hlt : k < R.length
      · have hd : decide ((k : Int) < (R.length : Int)) = true := by rw [decide_eq_true_iff]; omega
        have hki : (k : Int) < (R.length : Int) := by omega
        obtain ⟨b1, o1, rfl, hb1, hc1⟩ := (HR.out.below hbl).cells (by omega)
        have e1 : R[k]? = some R[k] := List.getElem?_eq_getElem hlt
        have hfit := HFT.out _ (List.getElem_mem hlt)
        have Hp := hid e1
        clear e1
        generalize R[k] = p at *
        have f0 : V.cell? ⟨b1, o1 + k * 4, none⟩ = some (.int .u8 p.si) := hc1 k _ Hp.out 0 _ rfl
        have f1 : V.cell? ⟨b1, o1 + k * 4 + 1, none⟩ = some (.bool p.su) := hc1 k _ Hp.out 1 _ rfl
        have f2 : V.cell? ⟨b1, o1 + k * 4 + 2, none⟩ = some (.int .i64 p.ea) := hc1 k _ Hp.out 2 _ rfl
        have f3 : V.cell? ⟨b1, o1 + k * 4 + 3, none⟩ = some (.int .i64 p.la) := hc1 k _ Hp.out 3 _ rfl
        obtain ⟨hsi, ⟨ea0, ea1⟩, ⟨la0, la1⟩, hsu, hle⟩ := hfit
        have HLE := hid hle
        have HY := hid (wideR_yes (R := R) (k := k) Hp.out)
        have HN := hid (wideR_no (R := R) (k := k) Hp.out)
        obtain ⟨u, hu1⟩ : ∃ u, wideR R k = u := ⟨_, rfl⟩
        rw [hu1] at hin
        rw [hu1] at HY HN
        rw [hu1]
        obtain ⟨bi, mo⟩ := u
        dsimp only at hin HY HN
        have hm0 : -1 ≤ mo := by omega
        have hm1 : mo ≤ 1099511627776 := by omega
        have BX : ∀ o, Below V.heap.size V (V.alloc o) := fun o => (Below.refl _ _).alloc (Nat.le_refl _) o
        have HBX := hid BX
        have hwr : IntKind.i64.wrap (p.la - p.ea) = p.la - p.ea := IntWalk.i64_in _ (by omega)
        obtain ⟨si, su, ea, la⟩ := p
        dsimp only at f0 f1 f2 f3 ea0 ea1 la0 la1 HLE HY HN hwr
        obtain ⟨df, hdf⟩ : ∃ d, la - ea = d := ⟨_, rfl⟩
        rw [hdf] at hwr HY HN
        have HDF := hid hdf
        have Hend := hid (fun (v : Int × Int) (hv : wideR R (k + 1) = v) (w2 : World) (hB : Below V.heap.size V w2) => show ∃ k' : Nat, k' ≤ R.length ∧ Value.int .i64 ((k : Int) + 1) = .int .i64 k' ∧ Value.int .i64 v.1 = .int .i64 (wideR R k').1 ∧ Value.int .i64 v.2 = .int .i64 (wideR R k').2 ∧ Below w1.heap.size w1 w2 from ⟨k + 1, by omega, by go_num, by rw [hv], by rw [hv], below_of HBL.out hz hB⟩)
        have hms : k + 1 ≤ R.length := by omega
        clear hc1 hbl BX hu1 hsu hle
        cases su
        · go_wp2_with fail
          exact ⟨Hend.out (bi, mo) (HN.out (by simp)) _ (HBX.out _), by simp [intOf]; omega⟩
        · have hdf0 : 0 ≤ df := by have := HLE.out rfl; have := HDF.out; omega
          have hdf1 : df ≤ 1099511627776 := by have := HDF.out; omega
          by_cases hgt : mo < df
          · have hg1 : decide (mo < df) = true := decide_eq_true hgt
            have hg2 : decide (df > mo) = true := decide_eq_true hgt
            have HYY := hid (HY.out rfl hgt)
            rcases hin with ⟨rfl, rfl⟩ | ⟨hb0, hb1, hb2, hb3⟩
            · go_wp2_with fail
              exact ⟨Hend.out ((k : Int), df) HYY.out _ (HBX.out _), by simp [intOf]; omega⟩
            · have hne : ¬ bi = -1 := by omega
              have hne1 : decide (bi = -1) = false := decide_eq_false hne
              have hne2 : (bi == -1) = false := by simpa using hne
              go_wp2_with fail
              exact ⟨Hend.out ((k : Int), df) HYY.out _ (HBX.out _), by simp [intOf]; omega⟩
          · have hg1 : decide (mo < df) = false := decide_eq_false hgt
            have hg2 : decide (df > mo) = false := decide_eq_false hgt
            have HNN := hid (HN.out (fun hx => hgt hx.2))
            rcases hin with ⟨rfl, rfl⟩ | ⟨hb0, hb1, hb2, hb3⟩
            · omega
            · have hne : ¬ bi = -1 := by omega
              have hne1 : decide (bi = -1) = false := decide_eq_false hne
              have hne2 : (bi == -1) = false := by simpa using hne
              go_wp2_with fail
              exact ⟨Hend.out (bi, mo) HNN.out _ (HBX.out _), by simp [intOf]; omega⟩
      · obtain rfl : k = R.length := by omega
        have hd : decide ((R.length : Int) < (R.length : Int)) = false := by rw [decide_eq_false_iff_not]; omega
        obtain ⟨u, hu1⟩ : ∃ u, wideR R R.length = u := ⟨_, rfl⟩
        rw [hu1] at hin HG
        rw [hu1]
        obtain ⟨bi, mo⟩ := u
        dsimp only at hin HG
        clear hu1 hbl
        rcases hin with ⟨rfl, rfl⟩ | ⟨hb0, hb1, hb2, hb3⟩
        · have HG2 := hid (show WidestSpanG wi hi xs ps ss = (0, 0, 6) from HG.out.trans (by simp))
          clear HG
          go_wp2_with fail
          go_ret3
          rw [HG2.out]
          exact ⟨rfl, HB1.out.trans (HBL.out.mono z1)⟩
        · have hne : ¬ bi = -1 := by omega
          have hne1 : decide (bi = -1) = false := decide_eq_false hne
          have hne2 : (bi == -1) = false := by simpa using hne
          have hlt0 : ¬ bi < 0 := by omega
          have hlt1 : decide (bi < 0) = false := decide_eq_false hlt0
          have HG2 := hid (show WidestSpanG wi hi xs ps ss = (bi, mo, 0) from HG.out.trans (by simp [hlt0]))
          clear HG
          go_wp2_with fail
          refine bodyPost_ret (v := .tuple #[.int .i64 bi, .int .i64 mo, .int .i64 0]) (by simp [results, Tryz.results10, go_sem]) rfl ?_
          rw [HG2.out]
          exact ⟨rfl, HB1.out.trans (HBL.out.mono z1)⟩
  · rcases hcd with rfl | rfl
    all_goals (
      go_enter Tryz.func10, Tryz.ntmps10
      go_wp2_with fail
      rw [← hW0]
      clear hW0
      refine H1.out.mono ?_
      rintro e w1 ⟨A, c1, rfl, hb1, own⟩
      have B1 := below_of HB0.out HB0.out.size hb1
      have HG2 := HG.out.trans (if_neg (by decide))
      clear own HG
      go_wp2_with fail
      go_ret3
      rw [HG2]
      exact ⟨rfl, B1⟩)
end Go.Proofs.YtnabedhhflfepaaGreat
