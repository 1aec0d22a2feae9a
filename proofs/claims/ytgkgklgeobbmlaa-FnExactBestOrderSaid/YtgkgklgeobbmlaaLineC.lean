/-
  slices.Concat at two lists of pieces; a board with a line's pieces: the program's. LayLine, the program's.
  Conditions: the fields are in their kinds' ranges.
-/
import Derived.Test.YtgkgklgeobbmlaaLineF
import Derived.Test.YtgkgklgeobbmlaaLineVI
import Derived.Test.YtgkgklgeobbmlaaWithoutI
import Derived.Lib.AppendZerosOnto
import Derived.Lib.AppendZeros
namespace Go.Proofs.Ytgkgklgeobbmlaa
open Go.RowKit
set_option linter.unusedSimpArgs false
set_option linter.unusedVariables false

theorem nil_or {A : Option Addr} {c : Nat} (h : A = none → c = 0) : A = none ∧ c = 0 ∨ A ≠ none := by
  by_cases e : A = none
  · exact .inl ⟨e, h e⟩
  · exact .inr e
def szP (a b : Nat) : Nat → Nat
  | 0 => 0
  | 1 => a
  | _ => a + b
def preP (l1 l2 : List Pc) : Nat → List Pc
  | 0 => []
  | 1 => l1
  | _ => l1 ++ l2
set_option maxRecDepth 100000 in
theorem grow_Pc_I (n : Nat) (w : World) (hn : n ≤ 2097152) :
    Calls Try.prog 103 #[.slice none 0 0, .int .i64 n] w fun e w' => ∃ A c, e = .returned (.slice A 0 c) ∧ w'.ownsRow w.heap.size 98 5 (.slice A 0 c) 0 [] ∧ Below w.heap.size w w' := by
  have hneg : decide ((n : Int) < 0) = false := by rw [decide_eq_false_iff_not]; omega
  have hw0 : IntKind.i64.wrap (n : Int) = (n : Int) := IntWalk.i64_in _ (by omega)
  have hw1 : IntKind.i64.wrap ((n : Int) - 0) = (n : Int) := by rw [Int.sub_zero]; exact hw0
  by_cases h0 : n = 0
  · subst h0
    go_enter Try.func103, Try.ntmps103
    go_wp2_with fail
    go_ret
    exact ⟨none, 0, rfl, World.ownsRow_nil _ _ _ _, Below.refl _ _⟩
  · have hpos : decide ((n : Int) > 0) = true := by rw [decide_eq_true_iff]; omega
    obtain ⟨i0, hi0, hz0, hz1, hz2⟩ := info_parts (show (Try.prog.info? 98).map (fun i => (i.zero, i.size, i.bytes)) = some (some (.agg Pc.z.enc.toArray), 5, 5) by kernel_rfl)
    have hz := fun ty => Lib.run_append_nil_zeros (P := Try.prog) w 30 3 ty 98 i0 (.agg Pc.z.enc.toArray) .i64 .i64 Try.underlying30 Try.underlying3 hi0 hz0 n (by omega) (by rw [hz1]; omega) (by omega) (by rw [hz2]; omega)
    obtain ⟨G, hG⟩ : ∃ G, G = grownCap w n 0 98 := ⟨_, rfl⟩
    have hGn : n ≤ G := by rw [hG]; exact grownCap_ge w _ _ _
    have hGm : G ≤ maxLen := by rw [hG]; exact grownCap_le_maxLen w n 0 98 (by unfold maxLen; omega)
    rw [← hG] at hz
    obtain ⟨ROW, hROW⟩ : ∃ ROW : Array Value, ROW = Builtin.zeroCells (Value.agg Pc.z.enc.toArray).cells n ++ Builtin.zeroCells (Value.agg Pc.z.enc.toArray).cells (G - n) := ⟨_, rfl⟩
    rw [← hROW] at hz
    have hRs : ROW.size = G * 5 := by
      rw [hROW, Array.size_append, size_zeroCells, size_zeroCells]
      have h5 : (Value.agg Pc.z.enc.toArray).cells.size = 5 := rfl
      rw [h5]
      omega
    have HO := hid (World.ownsRow_made w.drew ROW G (base := w.heap.size) (e := 98) (size := 5) (by simp) hGm hRs)
    have HB := hid ((Below.refl w.heap.size w).drew.alloc (by simp) (.cells ROW 98))
    clear hG hROW hRs hi0 hz0 hz1 hz2
    go_enter Try.func103, Try.ntmps103
    go_wp2_with (at_builtin; refine Lib.wpList_append_run _ rfl _ _ _ _ rfl _ _ rfl rfl _ _ (hz _) ?_)
    go_ret
    exact ⟨some ⟨w.heap.size, 0, none⟩, G, rfl, HO.out, HB.out⟩
set_option maxRecDepth 100000 in
set_option maxHeartbeats 1000000 in
theorem concatP_I (q : Nat) (l1 l2 : List Pc) (A1 A2 : Option Addr) (c1 c2 : Nat) (w : World) (h1 : SlA Pc.enc 5 w A1 l1) (h2 : SlA Pc.enc 5 w A2 l2) (n1 : A1 = none ∧ c1 = 0 ∨ A1 ≠ none) (n2 : A2 = none ∧ c2 = 0 ∨ A2 ≠ none)
    (hq0 : w.cell? ⟨q, 0, none⟩ = some (.slice A1 l1.length c1)) (hq1 : w.cell? ⟨q, 1, none⟩ = some (.slice A2 l2.length c2)) (hs : l1.length + l2.length ≤ 1048576) :
    Calls Try.prog 76 #[.slice (some ⟨q, 0, none⟩) 2 2] w (ResR Pc.enc 5 98 w (l1 ++ l2)) := by
  have HG := hid (fun W => grow_Pc_I (l1.length + l2.length) W (by omega))
  have H1 := hid h1
  have H2 := hid h2
  have hlen : (l1 ++ l2).length = l1.length + l2.length := List.length_append
  have HL := hid hlen
  have e1 : l1.length = 0 → l1 = [] := List.eq_nil_of_length_eq_zero
  clear h1 h2 hlen e1
  obtain ⟨m1, hm1⟩ : ∃ m, l1.length = m := ⟨_, rfl⟩
  obtain ⟨m2, hm2⟩ : ∃ m, l2.length = m := ⟨_, rfl⟩
  rw [hm1] at hq0
  rw [hm2] at hq1
  rw [hm1, hm2] at hs HG HL
  have HM1 := hid hm1
  have HM2 := hid hm2
  clear hm1 hm2
  go_enter Try.func76, Try.ntmps76
  go_wp2_with fail
  go_loopw [3, 11] (fun sv kv wr => ∃ k : Nat, k ≤ 2 ∧ kv = .int .i64 k ∧ sv = .int .i64 (szP m1 m2 k : Nat) ∧ wr = w) (fun _ kv _ => 2 - (intOf kv).toNat)
  case atStart => exact ⟨0, by omega, rfl, rfl, rfl⟩
  case round =>
    obtain ⟨k, hk, rfl, rfl, hww⟩ := hrel
    have hww2 := hww.symm
    subst hww2
    clear hww
    rcases (by omega : k = 0 ∨ k = 1 ∨ k = 2) with rfl | rfl | rfl
    · have hw : IntKind.i64.wrap ((m1 : Nat) : Int) = (m1 : Int) := IntWalk.i64_in _ (by omega)
      have hw0 : IntKind.i64.wrap (0 + ((m1 : Nat) : Int)) = (m1 : Int) := by rw [Int.zero_add]; exact hw
      have hn0 : decide ((m1 : Int) < 0) = false := by rw [decide_eq_false_iff_not]; omega
      rw [show szP m1 m2 0 = 0 from rfl]
      go_wp2_with fail
      exact ⟨⟨1, by omega, rfl, rfl, by first | rfl | trivial⟩, by simp [intOf]⟩
    · have hw0 : IntKind.i64.wrap (((m1 : Nat) : Int) + ((m2 : Nat) : Int)) = (m1 : Int) + (m2 : Int) := IntWalk.i64_in _ (by omega)
      have hn0 : decide ((m1 : Int) + (m2 : Int) < 0) = false := by rw [decide_eq_false_iff_not]; omega
      rw [show szP m1 m2 1 = m1 from rfl]
      go_wp2_with fail
      exact ⟨⟨2, by omega, rfl, by rw [show szP m1 m2 2 = m1 + m2 from rfl]; go_num, by first | rfl | trivial⟩, by simp [intOf]⟩
    · have hcast : ((m1 + m2 : Nat) : Int) = (m1 : Int) + (m2 : Int) := by omega
      rw [show szP m1 m2 2 = m1 + m2 from rfl]
      have HC := hid hcast
      clear hcast
      go_wp2_with fail
      refine (HG.out _).mono ?_
      rintro e w1 ⟨A0, c0, rfl, own0, hb0⟩
      have HO0 := hid own0
      have HB0 := hid hb0
      have g0 := cell_on hb0 hq0
      have g1 := cell_on hb0 hq1
      clear own0 hb0
      go_wp2_with fail
      go_loopw [6, 27] (fun o kv wr => ∃ (k : Nat) (A : Option Addr) (cc : Nat), k ≤ 2 ∧ kv = .int .i64 k ∧ o = .slice A (szP m1 m2 k) cc ∧ wr.ownsRow w.heap.size 98 5 (.slice A (szP m1 m2 k) cc) (szP m1 m2 k) ((preP l1 l2 k).flatMap Pc.enc) ∧ Below w.heap.size w wr) (fun _ kv _ => 2 - (intOf kv).toNat)
      case atStart => exact ⟨0, A0, c0, by omega, rfl, rfl, HO0.out, HB0.out⟩
      case round =>
        obtain ⟨k, A, cc, hk, rfl, rfl, own, hbl⟩ := hrel
        have Ho := hid own
        have HB := hid hbl
        have hz := hbl.size
        have y0 := cell_on hbl hq0
        have y1 := cell_on hbl hq1
        rcases (by omega : k = 0 ∨ k = 1 ∨ k = 2) with rfl | rfl | rfl
        · have Hc := hid ((H1.out.below hbl).flat Pc.enc_length)
          rw [HM1.out] at Hc
          have hfl : (l1.flatMap Pc.enc).length = m1 * 5 := by rw [flatMap_len Pc.enc_length, HM1.out]
          clear own hbl
          rw [show szP m1 m2 0 = 0 from rfl] at Ho
          try rw [show szP m1 m2 0 = 0 from rfl]
          go_wp2_with (at_builtin; refine app_many rfl _ _ 30 rfl w.heap.size 98 (.agg Pc.z.enc.toArray) 5 5 Try.underlying30 (by kernel_rfl) rfl (by decide) _ 0 ((preP l1 l2 0).flatMap Pc.enc) rfl Ho.out A1 m1 c1 (l1.flatMap Pc.enc) rfl ?c1 ?c6 ?c2 ?c3 ?c4 (by decide) ?c5 ?_)
          case c1 => exact hfl
          case c6 => exact Hc.out
          case c2 => exact oneCell_flat (fun p u hu => by simp [Pc.enc] at hu; rcases hu with rfl | rfl | rfl | rfl | rfl <;> rfl) _
          case c3 => exact fun _ => n1
          case c4 => omega
          case c5 => exact hz
          intro v4 w4 own4 hg4 hat4
          obtain ⟨A4, c4, rfl⟩ := own_slice own4
          have HB4 := hid (HB.out.grown hg4 hz (fun g hg => (Ho.out.lt g hg).1))
          have HO4 := hid own4
          clear own4 hg4 hat4
          go_wp2_with fail
          refine ⟨⟨1, A4, c4, by omega, rfl, rfl, ?_, HB4.out⟩, by simp [intOf]⟩
          have := HO4.out
          simpa [preP, szP] using this
        · have Hc := hid ((H2.out.below hbl).flat Pc.enc_length)
          rw [HM2.out] at Hc
          have hfl : (l2.flatMap Pc.enc).length = m2 * 5 := by rw [flatMap_len Pc.enc_length, HM2.out]
          clear own hbl
          rw [show szP m1 m2 1 = m1 from rfl] at Ho
          try rw [show szP m1 m2 1 = m1 from rfl]
          go_wp2_with (at_builtin; refine app_many rfl _ _ 30 rfl w.heap.size 98 (.agg Pc.z.enc.toArray) 5 5 Try.underlying30 (by kernel_rfl) rfl (by decide) _ m1 ((preP l1 l2 1).flatMap Pc.enc) rfl Ho.out A2 m2 c2 (l2.flatMap Pc.enc) rfl ?c1 ?c6 ?c2 ?c3 ?c4 (by decide) ?c5 ?_)
          case c1 => exact hfl
          case c6 => exact Hc.out
          case c2 => exact oneCell_flat (fun p u hu => by simp [Pc.enc] at hu; rcases hu with rfl | rfl | rfl | rfl | rfl <;> rfl) _
          case c3 => exact fun _ => n2
          case c4 => omega
          case c5 => exact hz
          intro v4 w4 own4 hg4 hat4
          obtain ⟨A4, c4, rfl⟩ := own_slice own4
          have HB4 := hid (HB.out.grown hg4 hz (fun g hg => (Ho.out.lt g hg).1))
          have HO4 := hid own4
          clear own4 hg4 hat4
          go_wp2_with fail
          refine ⟨⟨2, A4, c4, by omega, rfl, rfl, ?_, HB4.out⟩, by simp [intOf]⟩
          have := HO4.out
          rw [show preP l1 l2 2 = l1 ++ l2 from rfl, List.flatMap_append]
          exact this
        · clear own hbl
          rw [show szP m1 m2 2 = m1 + m2 from rfl] at Ho
          try rw [show szP m1 m2 2 = m1 + m2 from rfl]
          go_wp2_with fail
          go_ret
          have := Ho.out
          rw [show preP l1 l2 2 = l1 ++ l2 from rfl] at this
          exact ⟨A, cc, by rw [HL.out]; rfl, HB.out, by rw [HL.out]; exact this⟩
def layDG (wi hi : Int) (xs : List Pc) (P : List Ce) (p : Wy) (dl : Int) (sl : List Pc × Int) : (Int × Int × List Pc) × Int :=
  if 200 < xs.length + P.length ∨ 120 < P.length then ((0, 0, []), 3) else if 0 < dl then (if sl.2 = 0 then ((wi, hi, xs ++ sl.1), 0) else ((0, 0, []), sl.2)) else ((wi, hi, xs ++ lineL P p.sd p.ou), 0)
set_option maxRecDepth 100000 in
set_option maxHeartbeats 16000000 in
theorem laid_I (bb : Nat) (wi hi : Int) (a : Option Addr) (c : Nat) (xs : List Pc) (hs : xs.length ≤ 1048576) (hnc : a = none → c = 0) (p : Wy) (okp : p.Ok) (AQ : Option Addr) (cQ n : Nat) (P : List Ce) (hn : n = P.length) (hn2 : n ≤ 1048576) (hcap : n ≤ cQ) (dl : Int) (hdl : -9223372036854775808 ≤ dl ∧ dl ≤ 9223372036854775807) (sl : List Pc × Int) (hsl : sl.1.length ≤ 1000)
    (w : World) (hb : BdA w bb wi hi a xs.length c) (h : SlA Pc.enc 5 w a xs) (hq : SlA Ce.enc 2 w AQ P) (hL : LineOk P p.sd p.ou) (hpath : P.length ≤ 120 → pathB P = true) (hr : ∀ p ∈ P, (0 ≤ p.x ∧ p.x ≤ 23) ∧ (0 ≤ p.y ∧ p.y ≤ 23))
    (hS : 0 < dl → P.length ≤ 120 → ∀ W A c', Below w.heap.size w W → SlA Pc.enc 5 W A (lineL P p.sd p.ou) → (A = none → c' = 0) → Calls Try.prog 74 #[.slice A n c', .int .i64 dl] W (ResS Pc.enc 5 98 W sl.1 sl.2)) :
    Calls Try.prog 35 #[.pointer (some ⟨bb, 0, none⟩), .agg p.enc.toArray, .slice AQ n cQ, .int .i64 dl] w (ResK w (layDG wi hi xs P p dl sl)) := by
  obtain ⟨a0, a1, a2, a3, a4, a5, a6, a7, a8, a9, a10, a11⟩ := okp
  obtain ⟨W1, hW1⟩ : ∃ W, W = w.alloc (.cells p.enc.toArray 38) := ⟨_, rfl⟩
  have B1 : Below w.heap.size w W1 := by rw [hW1]; exact (Below.refl _ _).alloc (Nat.le_refl _) _
  have hs1 : W1.heap.size = w.heap.size + 1 := by rw [hW1]; simp
  obtain ⟨W2, hW2⟩ : ∃ W, W = W1.alloc (.cells #[.int .i8 0, .int .i8 0, .slice none 0 0] 32) := ⟨_, rfl⟩
  have B2 : Below W1.heap.size W1 W2 := by rw [hW2]; exact (Below.refl _ _).alloc (Nat.le_refl _) _
  have HR := hid (show BoQ W2 W1.heap.size 0 0 none 0 0 by rw [hW2]; exact boq_new _ _ _ _ _ _ _)
  have y2 : W2.cell? ⟨w.heap.size, 2, none⟩ = some (.int .i8 p.sd) := cell_on B2 (by rw [hW1]; simp [go_sem, Wy.enc])
  have y5 : W2.cell? ⟨w.heap.size, 5, none⟩ = some (.int .i8 p.ou) := cell_on B2 (by rw [hW1]; simp [go_sem, Wy.enc])
  have HB2 := hid (below_of B1 B1.size B2)
  rw [hs1] at HR
  rw [hW1] at hW2
  have HK := hid (fun W (hW : Below W2.heap.size W2 W) => (⟨(hb.below HB2.out hb.lt).below hW (Nat.lt_of_lt_of_le hb.lt HB2.out.size), (h.below HB2.out).below hW, (hq.below HB2.out).below hW⟩ : BdA W bb wi hi a xs.length c ∧ SlA Pc.enc 5 W a xs ∧ SlA Ce.enc 2 W AQ P))
  obtain ⟨⟨-, g0, g1, g2⟩, -, -⟩ := HK.out W2 (Below.refl _ _)
  have HG := hid (show layDG wi hi xs P p dl sl = if 200 < xs.length + n ∨ 120 < n then ((0, 0, []), 3) else if 0 < dl then (if sl.2 = 0 then ((wi, hi, xs ++ sl.1), 0) else ((0, 0, []), sl.2)) else ((wi, hi, xs ++ lineL P p.sd p.ou), 0) by unfold layDG; rw [hn])
  have wx : IntKind.i64.wrap ((xs.length : Int) + (n : Int)) = (xs.length : Int) + (n : Int) := IntWalk.i64_in _ (by omega)
  have ws1 : IntKind.i64.wrap p.sd = p.sd := IntWalk.i64_in _ (by omega)
  have ws2 : IntKind.i64.wrap p.ou = p.ou := IntWalk.i64_in _ (by omega)
  have HLp := hid (fun W (hW : Below W2.heap.size W2 W) (h120 : n ≤ 120) => linePieces_I AQ cQ n P p.sd p.ou W hL hn (by omega) hcap (hpath (by omega)) (HK.out W hW).2.2 hr)
  have HLl := hid (show (lineL P p.sd p.ou).length = n by rw [lineL_len, hn])
  have HSl := hid (fun (h0 : 0 < dl) (h120 : n ≤ 120) W A c' (hW : Below W2.heap.size W2 W) (hA : SlA Pc.enc 5 W A (lineL P p.sd p.ou)) (hc : A = none → c' = 0) => hS h0 (by omega) W A c' (below_of HB2.out HB2.out.size hW) hA hc)
  have HWi := hid (fun W (hW : Below W2.heap.size W2 W) A2 n2 c2 => with_I bb wi hi a xs.length c A2 n2 c2 W (HK.out W hW).1)
  have HN0 := hid (hL.n)
  have HNn := hid hn
  generalize layDG wi hi xs P p dl sl = R at *
  obtain ⟨LL, hLL⟩ : ∃ LL, lineL P p.sd p.ou = LL := ⟨_, rfl⟩
  rw [hLL] at HG HLp HLl HSl
  clear hb h hq hL hpath hr hS B1 B2 hs1 hW1 hn hLL
  obtain ⟨wb, hwb⟩ : ∃ wb, w.heap.size = wb := ⟨_, rfl⟩
  obtain ⟨rb, hrb⟩ : ∃ rb, wb + 1 = rb := ⟨_, rfl⟩
  rw [hwb] at HR y2 y5
  rw [hrb] at HR
  have HWb := hid hwb
  have hwr : wb ≤ rb := by omega
  have HRl := hid (show w.heap.size ≤ rb by omega)
  unfold Wy.enc at hW2
  unfold Wy.enc
  go_enter Try.func35, Try.ntmps35
  go_upto_region 1 with fail
  rw [← hW2]
  (try rw [hwb])
  (try rw [hrb])
  clear hW2 hwb hrb
  by_cases hl : 200 < xs.length + n ∨ 120 < n
  · have HRR := hid (show R = ((0, 0, []), 3) by rw [HG.out, if_pos hl])
    obtain ⟨-, r0, r1, r2, rz⟩ := HR.out
    have z0 := rz 0
    have z1 := rz 1
    have z2 := rz 2
    have hs : (decide ((120 : Int) < (n : Int)) = true ∧ decide (120 < n) = true) ∨ ((decide ((120 : Int) < (n : Int)) = false ∧ decide (120 < n) = false) ∧ decide ((200 : Int) < (xs.length : Int) + (n : Int)) = true) := by
      by_cases h2 : 120 < n
      · exact .inl ⟨by rw [decide_eq_true_iff]; omega, by rw [decide_eq_true_iff]; omega⟩
      · exact .inr ⟨⟨by rw [decide_eq_false_iff_not]; omega, by rw [decide_eq_false_iff_not]; omega⟩, by rw [decide_eq_true_iff]; omega⟩
    clear hl rz
    rcases hs with ⟨hs, hs2⟩ | ⟨⟨hs, hs2⟩, hs3⟩
    all_goals (
      go_wp2_with fail
      refine bodyPost_ret (v := .tuple #[.agg #[.int .i8 0, .int .i8 0, .slice none 0 0], .int .i64 3]) (by simp [results, Try.results35, go_sem, r0, r1, r2]) rfl ?_
      rw [HRR.out]
      refine ⟨none, 0, rfl, ?_, World.ownsRow_nil _ _ _ _⟩
      exact ((HB2.out.setCell (p := ⟨rb, 0, none⟩) HRl.out _).setCell (p := ⟨rb, 1, none⟩) HRl.out _).setCell (p := ⟨rb, 2, none⟩) HRl.out _)
  · have HRR := hid (show R = if 0 < dl then (if sl.2 = 0 then ((wi, hi, xs ++ sl.1), 0) else ((0, 0, []), sl.2)) else ((wi, hi, xs ++ LL), 0) by rw [HG.out, if_neg hl])
    have hs1 : decide ((120 : Int) < (n : Int)) = false := by rw [decide_eq_false_iff_not]; omega
    have hs2 : decide (120 < n) = false := by rw [decide_eq_false_iff_not]; omega
    have hs3 : decide ((200 : Int) < (xs.length : Int) + (n : Int)) = false := by rw [decide_eq_false_iff_not]; omega
    have h120 : n ≤ 120 := by omega
    have HX2 := hid (show xs.length ≤ 200 by omega)
    have HL2 := hid (HLp.out W2 (Below.refl _ _) h120)
    clear hl HG
    go_wp2_with fail
    refine HL2.out.mono ?_
    rintro e w3 ⟨A3, c3, rfl, hb3, own3⟩
    have HC3 := hid hb3
    have HB3 := hid (below_of HB2.out HB2.out.size hb3)
    have HO3 := hid own3
    have hnc3 : A3 = none → c3 = 0 := fun e => by subst e; exact own_nil_cap own3
    have HNc3 := hid hnc3
    have HRb3 := hid (HR.out.below hb3)
    have hsl3 : SlA Pc.enc 5 w3 A3 LL := SlA.of_own Pc.enc_length (by rw [HLl.out]; exact own3)
    have HSl3 := hid hsl3
    clear hb3 own3 hnc3 hsl3 g0 g1 g2
    by_cases hd0 : 0 < dl
    · have hdd : decide (0 < dl) = true := decide_eq_true hd0
      have HSc := hid (HSl.out hd0 h120 w3 A3 c3 HC3.out HSl3.out HNc3.out)
      have HR1 := hid (show R = if sl.2 = 0 then ((wi, hi, xs ++ sl.1), 0) else ((0, 0, []), sl.2) by rw [HRR.out, if_pos hd0])
      clear hd0
      go_wp2_with fail
      refine HSc.out.mono ?_
      rintro e w5 ⟨A5, c5, rfl, hb5, own5⟩
      have HC5 := hid (below_of HC3.out HC3.out.size hb5)
      have HB5 := hid (below_of HB3.out HB3.out.size hb5)
      have hnc5 : A5 = none → c5 = 0 := fun e => by subst e; exact own_nil_cap own5
      have HNc5 := hid hnc5
      have HRb5 := hid (HRb3.out.below hb5)
      have HSl5 := hid (SlA.of_own Pc.enc_length own5)
      obtain ⟨L5, hL5⟩ : ∃ L5, sl.1 = L5 := ⟨_, rfl⟩
      obtain ⟨d5, hd5⟩ : ∃ d5, sl.2 = d5 := ⟨_, rfl⟩
      rw [hL5, hd5] at HR1
      rw [hL5] at HSl5 hsl
      have HM5 := hid hsl
      rw [hL5, hd5]
      obtain ⟨m5, hm5⟩ : ∃ m5, L5.length = m5 := ⟨_, rfl⟩
      have HLl5 := hid hm5
      rw [hm5] at HM5
      rw [hm5]
      clear hb5 own5 hnc5 hsl hL5 hd5 hm5
      by_cases h5 : d5 = 0
      · subst h5
        have HRR5 := hid (show R = ((wi, hi, xs ++ L5), 0) by rw [HR1.out]; rfl)
        obtain ⟨W6, hW6⟩ : ∃ W, W = w5.alloc (.cells #[.slice a xs.length c, .slice A5 m5 c5] 30) := ⟨_, rfl⟩
        have b6 : Below w5.heap.size w5 W6 := by rw [hW6]; exact (Below.refl _ _).alloc (Nat.le_refl _) _
        have HW56 := hid (show w5.heap.size ≤ W6.heap.size from b6.size)
        have HC6 := hid (below_of HC5.out HC5.out.size b6)
        have HB6 := hid (below_of HB5.out HB5.out.size b6)
        have HCc := hid (concatP_I w5.heap.size xs L5 a A5 c c5 W6 (HK.out W6 HC6.out).2.1 (HSl5.out.below b6) (nil_or hnc) (nil_or HNc5.out) (by rw [hW6]; simp) (by rw [hW6, HLl5.out]; simp) (by rw [HLl5.out]; have := HM5.out; have := HX2.out; omega))
        have HR6 := hid (HRb5.out.below b6)
        obtain ⟨⟨-, g0, g1, g2⟩, -, -⟩ := HK.out w5 HC5.out
        clear b6
        go_wp2_with fail
        rw [← hW6]
        clear hW6
        refine HCc.out.mono ?_
        rintro e w7 ⟨A7, c7, rfl, hb7, own7⟩
        have HC7 := hid (below_of HC6.out HC6.out.size hb7)
        have HB7 := hid (below_of HB6.out HB6.out.size hb7)
        have HO7 := hid own7
        have HR7 := hid (HR6.out.below hb7)
        have hx7 : (xs ++ L5).length = xs.length + m5 := by rw [List.length_append, HLl5.out]
        obtain ⟨m7, hm7⟩ : ∃ m7, (xs ++ L5).length = m7 := ⟨_, rfl⟩
        rw [hm7] at HO7
        rw [hm7]
        have HM7 := hid hm7
        have HZ6 := hid HB6.out.size
        clear hb7 own7 hm7 hx7 g0 g1 g2
        go_wp2_with fail
        refine (HWi.out w7 HC7.out _ _ _).mono ?_
        rintro e w8 ⟨rfl, hb8⟩
        have HB8 := hid (below_of HB7.out HB7.out.size hb8)
        have HO8 := hid (own_step HO7.out hb8)
        obtain ⟨-, r0, r1, r2, rz⟩ := HR7.out.below hb8
        have z0 := rz 0
        have z1 := rz 1
        have z2 := rz 2
        clear rz hb8
        go_wp2_with fail
        refine bodyPost_ret (v := .tuple #[.agg #[.int .i8 wi, .int .i8 hi, .slice A7 m7 c7], .int .i64 0]) (by simp [results, Try.results35, go_sem, r0, r1, r2]) rfl ?_
        rw [HRR5.out]
        refine ⟨A7, c7, by rw [← HM7.out], ?_, ?_⟩
        · exact ((HB8.out.setCell (p := ⟨rb, 0, none⟩) HRl.out _).setCell (p := ⟨rb, 1, none⟩) HRl.out _).setCell (p := ⟨rb, 2, none⟩) HRl.out _
        · have hnb : ∀ k, (Value.slice A7 m7 c7).ownBlock = some k → k ≠ rb := fun k hk => by
            have h1 := (HO8.out.lt k hk).1
            have h2 := HRb5.out.lt
            have h3 := HW56.out
            omega
          show World.ownsRow _ _ _ _ (.slice A7 (xs ++ L5).length c7) (xs ++ L5).length ((xs ++ L5).flatMap Pc.enc)
          rw [HM7.out]
          exact own_setE (own_setE (own_setE (own_low HO8.out HZ6.out) hnb _) hnb _) hnb _
      · have hne : (d5 != 0) = true := by simpa using h5
        have HRR5 := hid (show R = ((0, 0, []), d5) by rw [HR1.out, if_neg h5])
        obtain ⟨-, r0, r1, r2, rz⟩ := HRb5.out
        have z0 := rz 0
        have z1 := rz 1
        have z2 := rz 2
        clear rz h5
        go_wp2_with fail
        refine bodyPost_ret (v := .tuple #[.agg #[.int .i8 0, .int .i8 0, .slice none 0 0], .int .i64 d5]) (by simp [results, Try.results35, go_sem, r0, r1, r2]) rfl ?_
        rw [HRR5.out]
        refine ⟨none, 0, rfl, ?_, World.ownsRow_nil _ _ _ _⟩
        exact ((HB5.out.setCell (p := ⟨rb, 0, none⟩) HRl.out _).setCell (p := ⟨rb, 1, none⟩) HRl.out _).setCell (p := ⟨rb, 2, none⟩) HRl.out _
    · have hdd : decide (0 < dl) = false := decide_eq_false hd0
      have HRR5 := hid (show R = ((wi, hi, xs ++ LL), 0) by rw [HRR.out, if_neg hd0])
      clear hd0
      obtain ⟨w5, hw5⟩ : ∃ W, W = w3 := ⟨_, rfl⟩
      subst hw5
      obtain ⟨A5, hA5⟩ : ∃ A, A = A3 := ⟨_, rfl⟩
      subst hA5
      obtain ⟨c5, hc5⟩ : ∃ c, c = c3 := ⟨_, rfl⟩
      subst hc5
      obtain ⟨L5, hL5⟩ : ∃ L, L = LL := ⟨_, rfl⟩
      subst hL5
      obtain ⟨m5, hm5⟩ : ∃ m, m = n := ⟨_, rfl⟩
      subst hm5
      have HC5 := HC3
      have HB5 := HB3
      have HNc5 := HNc3
      have HRb5 := HRb3
      have HSl5 := HSl3
      have HLl5 := HLl
      have HM5 := hid (show m5 ≤ 1000 by omega)
      obtain ⟨W6, hW6⟩ : ∃ W, W = w5.alloc (.cells #[.slice a xs.length c, .slice A5 m5 c5] 30) := ⟨_, rfl⟩
      have b6 : Below w5.heap.size w5 W6 := by rw [hW6]; exact (Below.refl _ _).alloc (Nat.le_refl _) _
      have HW56 := hid (show w5.heap.size ≤ W6.heap.size from b6.size)
      have HC6 := hid (below_of HC5.out HC5.out.size b6)
      have HB6 := hid (below_of HB5.out HB5.out.size b6)
      have HCc := hid (concatP_I w5.heap.size xs L5 a A5 c c5 W6 (HK.out W6 HC6.out).2.1 (HSl5.out.below b6) (nil_or hnc) (nil_or HNc5.out) (by rw [hW6]; simp) (by rw [hW6, HLl5.out]; simp) (by rw [HLl5.out]; have := HM5.out; have := HX2.out; omega))
      have HR6 := hid (HRb5.out.below b6)
      obtain ⟨⟨-, g0, g1, g2⟩, -, -⟩ := HK.out w5 HC5.out
      clear b6
      go_wp2_with fail
      rw [← hW6]
      clear hW6
      refine HCc.out.mono ?_
      rintro e w7 ⟨A7, c7, rfl, hb7, own7⟩
      have HC7 := hid (below_of HC6.out HC6.out.size hb7)
      have HB7 := hid (below_of HB6.out HB6.out.size hb7)
      have HO7 := hid own7
      have HR7 := hid (HR6.out.below hb7)
      have hx7 : (xs ++ L5).length = xs.length + m5 := by rw [List.length_append, HLl5.out]
      obtain ⟨m7, hm7⟩ : ∃ m7, (xs ++ L5).length = m7 := ⟨_, rfl⟩
      rw [hm7] at HO7
      rw [hm7]
      have HM7 := hid hm7
      have HZ6 := hid HB6.out.size
      clear hb7 own7 hm7 hx7 g0 g1 g2
      go_wp2_with fail
      refine (HWi.out w7 HC7.out _ _ _).mono ?_
      rintro e w8 ⟨rfl, hb8⟩
      have HB8 := hid (below_of HB7.out HB7.out.size hb8)
      have HO8 := hid (own_step HO7.out hb8)
      obtain ⟨-, r0, r1, r2, rz⟩ := HR7.out.below hb8
      have z0 := rz 0
      have z1 := rz 1
      have z2 := rz 2
      clear rz hb8
      go_wp2_with fail
      refine bodyPost_ret (v := .tuple #[.agg #[.int .i8 wi, .int .i8 hi, .slice A7 m7 c7], .int .i64 0]) (by simp [results, Try.results35, go_sem, r0, r1, r2]) rfl ?_
      rw [HRR5.out]
      refine ⟨A7, c7, by rw [← HM7.out], ?_, ?_⟩
      · exact ((HB8.out.setCell (p := ⟨rb, 0, none⟩) HRl.out _).setCell (p := ⟨rb, 1, none⟩) HRl.out _).setCell (p := ⟨rb, 2, none⟩) HRl.out _
      · have hnb : ∀ k, (Value.slice A7 m7 c7).ownBlock = some k → k ≠ rb := fun k hk => by
          have h1 := (HO8.out.lt k hk).1
          have h2 := HRb5.out.lt
          have h3 := HW56.out
          omega
        show World.ownsRow _ _ _ _ (.slice A7 (xs ++ L5).length c7) (xs ++ L5).length ((xs ++ L5).flatMap Pc.enc)
        rw [HM7.out]
        exact own_setE (own_setE (own_setE (own_low HO8.out HZ6.out) hnb _) hnb _) hnb _
end Go.Proofs.Ytgkgklgeobbmlaa
