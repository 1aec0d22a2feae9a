/-
  LayWithDelay, the program's.
  Conditions: the fields are in their kinds' ranges.
-/
import Derived.Test.YtgkgklgeobbmlaaDelLaw
import Derived.Test.YtgkgklgeobbmlaaSlowP
import Derived.Test.YtgkgklgeobbmlaaLongerI
import Derived.Test.YtgkgklgeobbmlaaLineZ
import Derived.Test.YtgkgklgeobbmlaaLawK
namespace Go.Proofs.Ytgkgklgeobbmlaa
open Go.RowKit
set_option linter.unusedSimpArgs false
set_option linter.unusedVariables false

theorem line_pcs {P : List Ce} {side out : Int} (hL : LineOk P side out) (hr : ∀ p ∈ P, (0 ≤ p.x ∧ p.x ≤ 23) ∧ (0 ≤ p.y ∧ p.y ≤ 23)) : ∀ q ∈ lineL P side out, q.Ok ∧ pcOk q = true := by
  intro q hq
  unfold lineL at hq
  obtain ⟨i, hi, rfl⟩ := List.mem_map.1 hq
  rw [List.mem_range] at hi
  obtain ⟨h1, h2, h3⟩ := hL.sides hi
  obtain ⟨t1, _, _⟩ := turn_ok h1 h2 h3
  have hp : P[i]? = some P[i] := List.getElem?_eq_getElem hi
  have hin := hr P[i] (List.getElem_mem hi)
  unfold linePc
  rw [getD_of hp]
  have hk : kindP (fromW P side i) (toW P out i) = 0 ∨ kindP (fromW P side i) (toW P out i) = 1 := by unfold kindP; split <;> simp
  unfold pieceP
  refine ⟨⟨?_, ?_, ?_, ?_, ?_, ?_, ?_, ?_, ?_, ?_⟩, ?_⟩
  any_goals (dsimp only; omega)
  unfold pcOk cellIn
  simp only [Bool.and_eq_true, inB_it]
  omega
def delayG (wi hi : Int) (xs : List Pc) (p : Wy) (dl : Int) : (Int × Int × List Pc) × Int :=
  if (bdOk wi hi xs && wayB wi hi xs p) = true then (if inB dl 1 1000 = true then (if (shortG wi hi xs p).2 = 0 then (if dl < (shortG wi hi xs p).1.length then ((0, 0, []), 6) else match growL wi hi xs (endsL p) dl (needL dl (shortG wi hi xs p).1.length) (shortG wi hi xs p).1 with
    | none => ((0, 0, []), 6)
    | some P => if 200 < xs.length + P.length ∨ 120 < P.length then ((0, 0, []), 3) else ((wi, hi, xs ++ slowL (lineL P p.sd p.ou) dl), 0)) else ((0, 0, []), (shortG wi hi xs p).2)) else ((0, 0, []), 2)) else ((0, 0, []), 1)
theorem lay_slow {wi hi : Int} {xs : List Pc} {P : List Ce} {p : Wy} {dl : Int} (h0 : 0 < dl) (h1 : (P.length : Int) ≤ dl) (h2 : dl ≤ 9 * (P.length : Int)) : layDG wi hi xs P p dl (slowG (lineL P p.sd p.ou) dl) = if 200 < xs.length + P.length ∨ 120 < P.length then ((0, 0, []), 3) else ((wi, hi, xs ++ slowL (lineL P p.sd p.ou) dl), 0) := by
  have e : slowG (lineL P p.sd p.ou) dl = (slowL (lineL P p.sd p.ou) dl, 0) := by unfold slowG; rw [lineL_len, if_neg (by omega)]
  unfold layDG
  rw [e, if_pos h0]
  rfl
set_option maxRecDepth 100000 in
set_option maxHeartbeats 16000000 in
theorem LayWithDelay_I (w : World) (wi hi : Int) (wl : -128 ≤ wi) (wu : wi ≤ 127) (hl : -128 ≤ hi) (hu : hi ≤ 127) (a : Option Addr) (c : Nat) (xs : List Pc) (h : SlA Pc.enc 5 w a xs) (hnc : a = none → c = 0) (ok : ∀ p ∈ xs, p.Ok) (hs : xs.length ≤ 1048576) (p : Wy) (okp : p.Ok) (dl : Int) (dl0 : -9223372036854775808 ≤ dl) (dl1 : dl ≤ 9223372036854775807) :
    Calls Try.prog 27 #[.agg #[.int .i8 wi, .int .i8 hi, .slice a xs.length c], .agg p.enc.toArray, .int .i64 dl] w (ResK w (delayG wi hi xs p dl)) := by
  obtain ⟨W1, hW1⟩ : ∃ W, W = w.alloc (.cells #[.int .i8 wi, .int .i8 hi, .slice a xs.length c] 32) := ⟨_, rfl⟩
  have B1 : Below w.heap.size w W1 := by rw [hW1]; exact (Below.refl _ _).alloc (Nat.le_refl _) _
  have bd1 : BdA W1 w.heap.size wi hi a xs.length c := by rw [hW1]; exact bd_box _ _ _ _ _ _ _
  obtain ⟨W2, hW2⟩ : ∃ W, W = W1.alloc (.cells p.enc.toArray 38) := ⟨_, rfl⟩
  have B2 : Below W1.heap.size W1 W2 := by rw [hW2]; exact (Below.refl _ _).alloc (Nat.le_refl _) _
  have wy2 : WyA W2 W1.heap.size p := by
    rw [hW2]
    exact ⟨by simp, by simp [go_sem, Wy.enc], by simp [go_sem, Wy.enc], by simp [go_sem, Wy.enc], by simp [go_sem, Wy.enc], by simp [go_sem, Wy.enc], by simp [go_sem, Wy.enc]⟩
  obtain ⟨W3, hW3⟩ : ∃ W, W = W2.alloc (.cells #[.int .i8 0, .int .i8 0, .slice none 0 0] 32) := ⟨_, rfl⟩
  have B3 : Below W2.heap.size W2 W3 := by rw [hW3]; exact (Below.refl _ _).alloc (Nat.le_refl _) _
  have HR := hid (show BoQ W3 W2.heap.size 0 0 none 0 0 by rw [hW3]; exact boq_new _ _ _ _ _ _ _)
  have hs1 : W1.heap.size = w.heap.size + 1 := by rw [hW1]; simp
  have hs2 : W2.heap.size = w.heap.size + 1 + 1 := by rw [hW2]; simp [hs1]
  have hb12 := below_of B1 B1.size B2
  have hb13 := below_of hb12 hb12.size B3
  have HB3 := hid hb13
  have hs3 : W2.heap.size < W3.heap.size := by rw [hW3]; simp
  have HK := hid (fun W (hW : Below W3.heap.size W3 W) => (⟨(((bd1.below B2 bd1.lt).below B3 (Nat.lt_of_lt_of_le bd1.lt B2.size)).below hW (Nat.lt_of_lt_of_le bd1.lt (by omega))), (h.below hb13).below hW, (wy2.below B3).below hW⟩ : BdA W w.heap.size wi hi a xs.length c ∧ SlA Pc.enc 5 W a xs ∧ WyA W W1.heap.size p))
  rw [hs2] at HR
  rw [hs1] at HK
  rw [hW2, hW1] at hW3
  have HG := hid (show delayG wi hi xs p dl = (if (bdOk wi hi xs && wayB wi hi xs p) = true then (if inB dl 1 1000 = true then (if (shortG wi hi xs p).2 = 0 then (if dl < (shortG wi hi xs p).1.length then ((0, 0, []), 6) else match growL wi hi xs (endsL p) dl (needL dl (shortG wi hi xs p).1.length) (shortG wi hi xs p).1 with
    | none => ((0, 0, []), 6)
    | some P => if 200 < xs.length + P.length ∨ 120 < P.length then ((0, 0, []), 3) else ((wi, hi, xs ++ slowL (lineL P p.sd p.ou) dl), 0)) else ((0, 0, []), (shortG wi hi xs p).2)) else ((0, 0, []), 2)) else ((0, 0, []), 1) : (Int × Int × List Pc) × Int) from rfl)
  generalize delayG wi hi xs p dl = G at *
  have HSh := hid (fun W (hW : Below W3.heap.size W3 W) => ShortestCells_I wi hi ⟨wl, wu, hl, hu⟩ a c xs hs ok p okp W (HK.out W hW).2.1)
  have HVw := hid (ValidWay_I wi hi ⟨wl, wu, hl, hu⟩ a c xs ok p okp W3 (HK.out W3 (Below.refl _ _)).2.1)
  have HIn := hid (fun x lo hi W => in_I x lo hi W)
  obtain ⟨v, hv⟩ : ∃ v, (bdOk wi hi xs && wayB wi hi xs p) = v := ⟨_, rfl⟩
  rw [hv] at HVw HG
  have HVv := hid hv
  have HSG := hid (fun (h : v = true) => (show ShortG wi hi xs p = shortG wi hi xs p by unfold ShortG; rw [hv, if_pos h]))
  have HOkp := hid okp
  clear B1 B2 B3 bd1 wy2 hb12 hb13 hs1 hs2 hs3 hW1 hW2 h okp hv
  obtain ⟨⟨-, g0, g1, g2⟩, -, ⟨-, y0, y1, y2, y3, y4, y5⟩⟩ := HK.out W3 (Below.refl _ _)
  obtain ⟨bb, hbb⟩ : ∃ bb, w.heap.size = bb := ⟨_, rfl⟩
  obtain ⟨wb, hwb⟩ : ∃ wb, bb + 1 = wb := ⟨_, rfl⟩
  obtain ⟨rb, hrb⟩ : ∃ rb, wb + 1 = rb := ⟨_, rfl⟩
  have HBb := hid hbb
  have HRb := hid (show w.heap.size ≤ rb by omega)
  rw [hbb] at HR HK g0 g1 g2 y0 y1 y2 y3 y4 y5
  rw [hwb] at HR HK y0 y1 y2 y3 y4 y5
  rw [hrb] at HR
  unfold Wy.enc at hW3 HVw HSh
  unfold Wy.enc
  go_enter Try.func27, Try.ntmps27
  go_upto_region 1 with fail
  rw [← hW3]
  (try rw [hbb])
  (try rw [hwb])
  (try rw [hrb])
  clear hW3 hbb hwb hrb
  go_wp2_with fail
  refine HVw.out.mono ?_
  rintro e w4 ⟨rfl, hb4⟩
  have HC4 := hid hb4
  have HB4 := hid (below_of HB3.out HB3.out.size hb4)
  have HR4 := hid (HR.out.below hb4)
  clear hb4 g0 g1 g2 y0 y1 y2 y3 y4 y5
  cases v with
  | false =>
    have HGG := hid (show G = ((0, 0, []), 1) by rw [HG.out]; rfl)
    obtain ⟨-, r0, r1, r2, rz⟩ := HR4.out
    have z0 := rz 0
    have z1 := rz 1
    have z2 := rz 2
    clear rz
    go_wp2_with fail
    refine bodyPost_ret (v := .tuple #[.agg #[.int .i8 0, .int .i8 0, .slice none 0 0], .int .i64 1]) (by simp [results, Try.results27, go_sem, r0, r1, r2]) rfl ?_
    rw [HGG.out]
    refine ⟨none, 0, rfl, ?_, World.ownsRow_nil _ _ _ _⟩
    exact below_set3 HB4.out HRb.out
  | true =>
    have hv2 := HVv.out
    rw [Bool.and_eq_true] at hv2
    obtain ⟨hbo, hwo⟩ := hv2
    obtain ⟨⟨hfr, hto⟩, hsd, hou⟩ := wayB_in hwo
    obtain ⟨hwi, hhi, hx200⟩ := bd_in hbo
    have HWo := hid hwo
    rw [HSG.out rfl] at HSh
    have HSl := hid (fun h0 => short_ln hwo h0)
    obtain ⟨b, hb⟩ : ∃ b, inB dl 1 1000 = b := ⟨_, rfl⟩
    have HBb2 := hid hb
    rw [hb] at HG
    clear hfr hto hbo hwo HSG HVv
    go_wp2_with fail
    refine (HIn.out _ _ _ _).mono ?_
    rintro e w5 ⟨rfl, rfl⟩
    (try rw [hb])
    clear hb
    cases b with
    | false =>
      have HGG := hid (show G = ((0, 0, []), 2) by rw [HG.out]; rfl)
      obtain ⟨-, r0, r1, r2, rz⟩ := HR4.out
      have z0 := rz 0
      have z1 := rz 1
      have z2 := rz 2
      clear rz
      go_wp2_with fail
      refine bodyPost_ret (v := .tuple #[.agg #[.int .i8 0, .int .i8 0, .slice none 0 0], .int .i64 2]) (by simp [results, Try.results27, go_sem, r0, r1, r2]) rfl ?_
      rw [HGG.out]
      refine ⟨none, 0, rfl, ?_, World.ownsRow_nil _ _ _ _⟩
      exact below_set3 HB4.out HRb.out
    | true =>
      have hdl := inB_it.1 HBb2.out
      have HS4 := hid (HSh.out w4 HC4.out)
      obtain ⟨⟨-, g0, g1, g2⟩, -, ⟨-, y0, y1, y2, y3, y4, y5⟩⟩ := HK.out w4 HC4.out
      go_wp2_with fail
      refine HS4.out.mono ?_
      rintro e w5 ⟨A5, c5, rfl, hb5, own5⟩
      obtain ⟨P0, hP⟩ : ∃ P, (shortG wi hi xs p).1 = P := ⟨_, rfl⟩
      obtain ⟨cd, hcd⟩ : ∃ cd, (shortG wi hi xs p).2 = cd := ⟨_, rfl⟩
      rw [hP] at own5
      rw [hP, hcd] at HG HSl
      rw [hP, hcd]
      have HC5 := hid (below_of HC4.out HC4.out.size hb5)
      have HB5 := hid (below_of HB4.out HB4.out.size hb5)
      have HR5 := hid (HR4.out.below hb5)
      have hsl := SlA.of_own Ce.enc_length own5
      have hcap := (own_caps own5).1
      have hnil : A5 = none → c5 = 0 := fun e => by subst e; exact own_nil_cap own5
      have HSl5 := hid hsl
      have HNl5 := hid hnil
      obtain ⟨n, hn⟩ : ∃ n, P0.length = n := ⟨_, rfl⟩
      have HN := hid hn
      rw [hn] at hcap HG
      rw [hn]
      clear hb5 own5 hP hcd hsl hn hnil g0 g1 g2 y0 y1 y2 y3 y4 y5
      by_cases h0 : cd = 0
      · subst h0
        have HLn0 := hid (HSl.out rfl)
        by_cases hdn : dl < (n : Int)
        · have hd : decide (dl < (n : Int)) = true := decide_eq_true hdn
          have HGG := hid (show G = ((0, 0, []), 6) by have h := HG.out; simp only [eq_self_iff_true, if_true, if_pos hdn] at h; exact h)
          obtain ⟨-, r0, r1, r2, rz⟩ := HR5.out
          have z0 := rz 0
          have z1 := rz 1
          have z2 := rz 2
          clear rz hdn
          go_wp2_with fail
          refine bodyPost_ret (v := .tuple #[.agg #[.int .i8 0, .int .i8 0, .slice none 0 0], .int .i64 6]) (by simp [results, Try.results27, go_sem, r0, r1, r2]) rfl ?_
          rw [HGG.out]
          refine ⟨none, 0, rfl, ?_, World.ownsRow_nil _ _ _ _⟩
          exact below_set3 HB5.out HRb.out
        · have hd : decide (dl < (n : Int)) = false := decide_eq_false hdn
          have HGG := hid (show G = ((match growL wi hi xs (endsL p) dl (needL dl n) P0 with
            | none => ((0, 0, []), 6)
            | some P => if 200 < xs.length + P.length ∨ 120 < P.length then ((0, 0, []), 3) else ((wi, hi, xs ++ slowL (lineL P p.sd p.ou) dl), 0)) : (Int × Int × List Pc) × Int) by have h := HG.out; simp only [eq_self_iff_true, if_true, if_neg hdn] at h; exact h)
          have hnd : (n : Int) ≤ dl := by omega
          have h0n : n ≤ 1000 := by omega
          clear hdn HG
          go_wp2_with fail
          clear hd
          have HNx := hid (fun (P R : List Ce) (h9 : 9 * (P.length : Int) < dl) (hl : longerG wi hi xs P (endsL p) = (R, true)) => grow_next h9 hl)
          have HNn := hid (fun (P : List Ce) (h9 : 9 * (P.length : Int) < dl) (hl : (longerG wi hi xs P (endsL p)).2 = false) => grow_none h9 hl)
          have HNs := hid (fun (P : List Ce) (h9 : ¬ 9 * (P.length : Int) < dl) f => grow_stop (wi := wi) (hi := hi) (xs := xs) (B := endsL p) h9 f)
          go_loopg [8] (needL dl n) (fun gk cv wr => ∃ (P : List Ce) (A : Option Addr) (n' c' : Nat), gk = needL dl n' ∧ cv = .slice A n' c' ∧ P.length = n' ∧ SlA Ce.enc 2 wr A P ∧ n' ≤ c' ∧ (A = none → c' = 0) ∧ LnOk wi hi xs p P ∧ (n' : Int) ≤ dl ∧ growL wi hi xs (endsL p) dl (needL dl n) P0 = growL wi hi xs (endsL p) dl (needL dl n') P ∧ Below w5.heap.size w5 wr)
          case atStart => exact ⟨P0, A5, n, c5, rfl, rfl, HN.out, HSl5.out, hcap, HNl5.out, HLn0.out, hnd, rfl, Below.refl _ _⟩
          case round =>
            obtain ⟨P, A, n', c', rfl, rfl, hPn, hsl, hcp, hnl, hln, hnd', hgr, hbl⟩ := hrel
            have h576 := ln_len hln hwi hhi
            have hC := below_of HC5.out HC5.out.size hbl
            have HCw := hid hC
            have HBw := hid (below_of HB5.out HB5.out.size hbl)
            have HRw := hid (HR5.out.below hbl)
            have HBl := hid hbl
            have w9 : IntKind.i64.wrap (9 * (n' : Int)) = 9 * (n' : Int) := IntWalk.i64_in _ (by omega)
            obtain ⟨⟨-, g0, g1, g2⟩, -, ⟨-, y0, y1, y2, y3, y4, y5⟩⟩ := HK.out wr hC
            have HLn := hid hln
            have HGr := hid hgr
            have HPn := hid hPn
            have HSl' := hid hsl
            have HNl := hid hnl
            have hin := ln_in hln hwi.2 hhi.2
            by_cases h9 : 9 * (n' : Int) < dl
            · have hd : decide (9 * (n' : Int) < dl) = true := decide_eq_true h9
              have HE := hid (ends_I p wr (by have := free_in ((wayB_in HWo.out).1.1); omega) (by have := free_in ((wayB_in HWo.out).1.2); omega) hsd hou)
              unfold Wy.enc at HE
              have HLg := hid (fun W (hW : Below wr.heap.size wr W) ak ck (hk : SlA Ce.enc 2 W ak (endsL p)) => longer_I bb wi hi a c xs A c' P ak ck (endsL p) W (HK.out W (below_of HCw.out HCw.out.size hW)).1 (HK.out W (below_of HCw.out HCw.out.size hW)).2.1 (HSl'.out.below hW) HNl.out (by omega) hin hk)
              rw [hPn] at HLg
              have H9 := hid h9
              have hel : (endsL p).length = 2 := rfl
              clear hPn hsl hnl hln hgr hbl hC h9 g0 g1 g2
              go_wp2_with fail
              refine HE.out.mono ?_
              rintro e w6 ⟨Ae, ce, rfl, hb6, own6⟩
              have HL6 := hid (HLg.out w6 hb6 Ae ce (SlA.of_own Ce.enc_length own6))
              rw [hel] at HL6
              rw [hel]
              have HB6 := hid (below_of HBw.out HBw.out.size hb6)
              have HBl6 := hid (below_of HBl.out HBl.out.size hb6)
              have HR6 := hid (HRw.out.below hb6)
              clear hb6 own6 y0 y1 y2 y3 y4 y5 hel
              go_wp2_with fail
              refine HL6.out.mono ?_
              rintro e w7 ⟨A7, c7, rfl, hb7, own7⟩
              have HB7 := hid (below_of HB6.out HB6.out.size hb7)
              have HBl7 := hid (below_of HBl6.out HBl6.out.size hb7)
              have HR7 := hid (HR6.out.below hb7)
              have hs7 := SlA.of_own Ce.enc_length own7
              have HS7 := hid hs7
              have hc7 := (own_caps own7).1
              have hn7 : A7 = none → c7 = 0 := fun e => by subst e; exact own_nil_cap own7
              have HN7 := hid hn7
              obtain ⟨R7, hR7⟩ : ∃ R, (longerG wi hi xs P (endsL p)).1 = R := ⟨_, rfl⟩
              obtain ⟨f7, hf7⟩ : ∃ f, (longerG wi hi xs P (endsL p)).2 = f := ⟨_, rfl⟩
              rw [hR7] at HS7 hc7
              rw [hR7, hf7]
              have HF7 := hid hf7
              have HE7 := hid hR7
              obtain ⟨m7, hm7⟩ : ∃ m, R7.length = m := ⟨_, rfl⟩
              rw [hm7] at hc7
              rw [hm7]
              have HM7 := hid hm7
              clear hb7 own7 hs7 hn7 hR7 hf7 hm7
              cases f7 with
              | false =>
                have HGN := hid (show G = ((0, 0, []), 6) by
                  have := HGG.out
                  rw [HGr.out, ← HPn.out, HNn.out P (by rw [HPn.out]; exact H9.out) HF7.out] at this
                  exact this)
                obtain ⟨-, r0, r1, r2, rz⟩ := HR7.out
                have z0 := rz 0
                have z1 := rz 1
                have z2 := rz 2
                clear rz
                go_wp2_with fail
                refine bodyPost_ret (v := .tuple #[.agg #[.int .i8 0, .int .i8 0, .slice none 0 0], .int .i64 6]) (by simp [results, Try.results27, go_sem, r0, r1, r2]) rfl ?_
                rw [HGN.out]
                refine ⟨none, 0, rfl, ?_, World.ownsRow_nil _ _ _ _⟩
                exact below_set3 HB7.out HRb.out
              | true =>
                have hyes : longerG wi hi xs P (endsL p) = (R7, true) := by rw [← HE7.out, ← HF7.out]
                have hlr := longer_len hyes
                have HYe := hid hyes
                have hm : m7 = n' + 2 := by rw [← HM7.out, hlr, HPn.out]
                have HMe := hid hm
                clear hyes hlr hm
                go_wp2_with fail
                go_roundg (needL dl m7)
                case measure => rw [HMe.out]; exact need_less H9.out
                case rel =>
                  exact ⟨R7, A7, m7, c7, rfl, rfl, HM7.out, HS7.out, hc7, HN7.out, longer_ln HLn.out HYe.out, by have := HMe.out; have := H9.out; have := HLn.out.line.n; have := HPn.out; omega, by
                    rw [HGr.out, ← HPn.out, HNx.out P R7 (by rw [HPn.out]; exact H9.out) HYe.out, HM7.out], HBl7.out⟩
            · have hd : decide (9 * (n' : Int) < dl) = false := decide_eq_false h9
              have HGf := hid (show G = (if 200 < xs.length + P.length ∨ 120 < P.length then ((0, 0, []), 3) else ((wi, hi, xs ++ slowL (lineL P p.sd p.ou) dl), 0) : (Int × Int × List Pc) × Int) by
                have := HGG.out
                rw [HGr.out, HNs.out P (by rw [hPn]; exact h9)] at this
                exact this)
              have HGl := hid (show G = layDG wi hi xs P p dl (slowG (lineL P p.sd p.ou) dl) by
                rw [HGf.out, lay_slow (by omega) (by rw [hPn]; exact hnd') (by rw [hPn]; omega)])
              have HPc := hid (line_pcs hln.line hin)
              have HLd := hid (laid_I bb wi hi a c xs hs hnc p HOkp.out A c' n' P hPn.symm (by omega) hcp dl ⟨dl0, dl1⟩ (slowG (lineL P p.sd p.ou) dl) (by
                  have := slowG_len (lineL P p.sd p.ou) dl
                  rw [lineL_len] at this
                  omega) wr (HK.out wr hC).1 (HK.out wr hC).2.1 hsl hln.line (fun h120 => ln_path hln hwi.2 hhi.2 h120) hin (fun h0d h120 W A2 c2 hW hA hc2 => SlowLine_I A2 c2 n' (lineL P p.sd p.ou) dl W (by rw [lineL_len, hPn]) hA hc2 HPc.out (by have := hln.line.n; omega) (by omega) (by omega)))
              rw [← HGl.out] at HLd
              unfold Wy.enc at HLd
              clear hPn hsl hnl hln hgr hbl hC h9 hin
              go_wp2_with fail
              refine HLd.out.mono ?_
              rintro e w6 ⟨A9, c9, rfl, hb6, own6⟩
              obtain ⟨-, r0, r1, r2, rz⟩ := HRw.out.below hb6
              have z0 := rz 0
              have z1 := rz 1
              have z2 := rz 2
              have HRl := hid HRw.out.lt
              have HB6 := hid (below_of HBw.out HBw.out.size hb6)
              have HO6 := hid own6
              clear rz hb6 own6
              go_wp2_with fail
              refine bodyPost_ret (v := .tuple #[.agg #[.int .i8 G.1.1, .int .i8 G.1.2.1, .slice A9 G.1.2.2.length c9], .int .i64 G.2]) (by simp [results, Try.results27, go_sem, r0, r1, r2]) rfl ⟨A9, c9, rfl, ?_, ?_⟩
              · exact below_set3 HB6.out HRb.out
              · have hnb : ∀ k, (Value.slice A9 G.1.2.2.length c9).ownBlock = some k → k ≠ rb := fun k hk => by
                  have h1 := (HO6.out.lt k hk).1
                  have h2 := HRl.out
                  omega
                exact own_setE (own_setE (own_setE (own_low HO6.out HBw.out.size) hnb _) hnb _) hnb _
      · have hne : (cd != 0) = true := by simpa using h0
        have HGG := hid (show G = ((0, 0, []), cd) by have h := HG.out; simp only [eq_self_iff_true, if_true, if_neg h0] at h; exact h)
        obtain ⟨-, r0, r1, r2, rz⟩ := HR5.out
        have z0 := rz 0
        have z1 := rz 1
        have z2 := rz 2
        clear rz h0
        go_wp2_with fail
        refine bodyPost_ret (v := .tuple #[.agg #[.int .i8 0, .int .i8 0, .slice none 0 0], .int .i64 cd]) (by simp [results, Try.results27, go_sem, r0, r1, r2]) rfl ?_
        rw [HGG.out]
        refine ⟨none, 0, rfl, ?_, World.ownsRow_nil _ _ _ _⟩
        exact below_set3 HB5.out HRb.out
end Go.Proofs.Ytgkgklgeobbmlaa
