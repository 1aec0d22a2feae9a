/-
  LayWithDelay, the reference's; both sides as the law's call wants them.
  Conditions: the fields are in their kinds' ranges.
-/
import Derived.Test.YtgkgklgeobbmlaaDelI
import Derived.Test.YtgkgklgeobbmlaaSlowP
namespace Go.Proofs.Ytgkgklgeobbmlaa
open Go.RowKit
set_option linter.unusedSimpArgs false
set_option linter.unusedVariables false

set_option maxRecDepth 100000 in
set_option maxHeartbeats 16000000 in
theorem LayWithDelay_S (w : World) (wi hi : Int) (wl : -128 ≤ wi) (wu : wi ≤ 127) (hl : -128 ≤ hi) (hu : hi ≤ 127) (a : Option Addr) (c : Nat) (xs : List Pc) (h : SlA Pc.enc 5 w a xs) (hnc : a = none → c = 0) (ok : ∀ p ∈ xs, p.Ok) (hs : xs.length ≤ 1048576) (p : Wy) (okp : p.Ok) (dl : Int) (dl0 : -9223372036854775808 ≤ dl) (dl1 : dl ≤ 9223372036854775807) :
    Calls Try.prog 26 #[.agg #[.int .i8 wi, .int .i8 hi, .slice a xs.length c], .agg p.enc.toArray, .int .i64 dl] w (ResK w (delayG wi hi xs p dl)) := by
  obtain ⟨W1, hW1⟩ : ∃ W, W = w.alloc (.cells #[.int .i8 wi, .int .i8 hi, .slice a xs.length c] 32) := ⟨_, rfl⟩
  have B1 : Below w.heap.size w W1 := by rw [hW1]; exact (Below.refl _ _).alloc (Nat.le_refl _) _
  have bd1 : BdA W1 w.heap.size wi hi a xs.length c := by rw [hW1]; exact bd_box _ _ _ _ _ _ _
  obtain ⟨W2, hW2⟩ : ∃ W, W = W1.alloc (.cells p.enc.toArray 38) := ⟨_, rfl⟩
  have B2 : Below W1.heap.size W1 W2 := by rw [hW2]; exact (Below.refl _ _).alloc (Nat.le_refl _) _
  have wy2 : WyA W2 W1.heap.size p := by
    rw [hW2]
    exact ⟨by simp, by simp [go_sem, Wy.enc], by simp [go_sem, Wy.enc], by simp [go_sem, Wy.enc], by simp [go_sem, Wy.enc], by simp [go_sem, Wy.enc], by simp [go_sem, Wy.enc]⟩
  obtain ⟨W3, hW3⟩ : ∃ W, W = W2.alloc (.cells #[.int .i8 0, .int .i8 0, .slice none 0 0] 32) := ⟨_, rfl⟩
  have B3 : Below W2.heap.size W2 W3 := by rw [hW3]; exact (Below.refl _ _).alloc (Nat.le_refl _) _
  have HR := hid (show BoQ W3 W2.heap.size 0 0 none 0 0 by rw [hW3]; exact boq_new _ _ _ _ _ _ _)
  have hs1 : W1.heap.size = w.heap.size + 1 := by rw [hW1]; simp
  have hs2 : W2.heap.size = w.heap.size + 1 + 1 := by rw [hW2]; simp [hs1]
  have hb12 := below_of B1 B1.size B2
  have hb13 := below_of hb12 hb12.size B3
  have HB3 := hid hb13
  have hs3 : W2.heap.size < W3.heap.size := by rw [hW3]; simp
  have HK := hid (fun W (hW : Below W3.heap.size W3 W) => (⟨(((bd1.below B2 bd1.lt).below B3 (Nat.lt_of_lt_of_le bd1.lt B2.size)).below hW (Nat.lt_of_lt_of_le bd1.lt (by omega))), (h.below hb13).below hW, (wy2.below B3).below hW⟩ : BdA W w.heap.size wi hi a xs.length c ∧ SlA Pc.enc 5 W a xs ∧ WyA W W1.heap.size p))
  rw [hs2] at HR
  rw [hs1] at HK
  rw [hW2, hW1] at hW3
  have HG := hid (show delayG wi hi xs p dl = (if (bdOk wi hi xs && wayB wi hi xs p) = true then (if inB dl 1 1000 = true then (if (shortG wi hi xs p).2 = 0 then (if dl < (shortG wi hi xs p).1.length then ((0, 0, []), 6) else match growL wi hi xs (endsL p) dl (needL dl (shortG wi hi xs p).1.length) (shortG wi hi xs p).1 with
    | none => ((0, 0, []), 6)
    | some P => if 200 < xs.length + P.length ∨ 120 < P.length then ((0, 0, []), 3) else ((wi, hi, xs ++ slowL (lineL P p.sd p.ou) dl), 0)) else ((0, 0, []), (shortG wi hi xs p).2)) else ((0, 0, []), 2)) else ((0, 0, []), 1) : (Int × Int × List Pc) × Int) from rfl)
  generalize delayG wi hi xs p dl = G at *
  have HIn := hid (fun x lo hi W => in_S x lo hi W)
  have HOk := hid (ok_S w.heap.size wi hi a c xs W3 ⟨wl, wu, hl, hu⟩ (HK.out W3 (Below.refl _ _)).1 (HK.out W3 (Below.refl _ _)).2.1 ok)
  have HWy := hid (fun W (hW : Below W3.heap.size W3 W) => ok_LS w.heap.size (w.heap.size + 1) wi hi ⟨wl, wu, hl, hu⟩ a c xs p okp W (HK.out W hW).1 (HK.out W hW).2.1 (HK.out W hW).2.2)
  obtain ⟨v, hv⟩ : ∃ v, bdOk wi hi xs = v := ⟨_, rfl⟩
  obtain ⟨u, hu2⟩ : ∃ u, wayB wi hi xs p = u := ⟨_, rfl⟩
  rw [hv] at HOk HG
  rw [hu2] at HWy HG
  have HVv := hid hv
  have HUu := hid hu2
  clear B1 B2 B3 bd1 wy2 hb12 hb13 hs1 hs2 hs3 hW1 hW2 h hv hu2
  obtain ⟨bb, hbb⟩ : ∃ bb, w.heap.size = bb := ⟨_, rfl⟩
  obtain ⟨wb, hwb⟩ : ∃ wb, bb + 1 = wb := ⟨_, rfl⟩
  obtain ⟨rb, hrb⟩ : ∃ rb, wb + 1 = rb := ⟨_, rfl⟩
  have HBb := hid hbb
  have HRb := hid (show w.heap.size ≤ rb by omega)
  rw [hbb] at HR HK HOk HWy
  rw [hwb] at HR HK HWy
  rw [hrb] at HR
  unfold Wy.enc at hW3
  unfold Wy.enc
  have ws1 : IntKind.i64.wrap p.sd = p.sd := IntWalk.i64_in _ (by have := okp; cases okp; omega)
  have ws2 : IntKind.i64.wrap p.ou = p.ou := IntWalk.i64_in _ (by have := okp; cases okp; omega)
  clear okp
  go_enter Try.func26, Try.ntmps26
  go_upto_region 1 with fail
  rw [← hW3]
  (try rw [hbb])
  (try rw [hwb])
  (try rw [hrb])
  clear hW3 hbb hwb hrb
  go_wp2_with fail
  refine HOk.out.mono ?_
  rintro e w4 ⟨rfl, hb4⟩
  have HC4 := hid hb4
  have HB4 := hid (below_of HB3.out HB3.out.size hb4)
  have HR4 := hid (HR.out.below hb4)
  clear hb4
  cases v with
  | false =>
    have HGG := hid (show G = ((0, 0, []), 1) by rw [HG.out]; rfl)
    obtain ⟨-, r0, r1, r2, rz⟩ := HR4.out
    have z0 := rz 0
    have z1 := rz 1
    have z2 := rz 2
    clear rz
    go_wp2_with fail
    refine bodyPost_ret (v := .tuple #[.agg #[.int .i8 0, .int .i8 0, .slice none 0 0], .int .i64 1]) (by simp [results, Try.results26, go_sem, r0, r1, r2]) rfl ?_
    rw [HGG.out]
    refine ⟨none, 0, rfl, ?_, World.ownsRow_nil _ _ _ _⟩
    exact below_set3 HB4.out HRb.out
  | true =>
    have HW4 := hid (HWy.out w4 HC4.out)
    go_wp2_with fail
    refine HW4.out.mono ?_
    rintro e w5 ⟨rfl, hb5⟩
    have HC5 := hid (below_of HC4.out HC4.out.size hb5)
    have HB5 := hid (below_of HB4.out HB4.out.size hb5)
    have HR5 := hid (HR4.out.below hb5)
    clear hb5
    cases u with
    | false =>
      have HGG := hid (show G = ((0, 0, []), 1) by rw [HG.out]; rfl)
      obtain ⟨-, r0, r1, r2, rz⟩ := HR5.out
      have z0 := rz 0
      have z1 := rz 1
      have z2 := rz 2
      clear rz
      go_wp2_with fail
      refine bodyPost_ret (v := .tuple #[.agg #[.int .i8 0, .int .i8 0, .slice none 0 0], .int .i64 1]) (by simp [results, Try.results26, go_sem, r0, r1, r2]) rfl ?_
      rw [HGG.out]
      refine ⟨none, 0, rfl, ?_, World.ownsRow_nil _ _ _ _⟩
      exact below_set3 HB5.out HRb.out
    | true =>
      have hbo := HVv.out
      have hwo := HUu.out
      obtain ⟨⟨hfr, hto⟩, hsd, hou⟩ := wayB_in hwo
      obtain ⟨hwi, hhi, hx200⟩ := bd_in hbo
      have HWo := hid hwo
      have HSl := hid (fun h0 => short_ln hwo h0)
      obtain ⟨b, hb⟩ : ∃ b, inB dl 1 1000 = b := ⟨_, rfl⟩
      have HBb2 := hid hb
      rw [hb] at HG
      have HSh := hid (fun W (hW : Below W3.heap.size W3 W) => (show Calls Try.prog 53 #[.pointer (some ⟨bb, 0, none⟩), .pointer (some ⟨wb, 0, none⟩)] W (ResS Ce.enc 2 36 W (shortG wi hi xs p).1 (shortG wi hi xs p).2) from by
        have hk := HK.out W hW
        obtain ⟨m, rfl⟩ : ∃ m : Nat, wi = (m : Int) := ⟨wi.toNat, by omega⟩
        obtain ⟨n, rfl⟩ : ∃ n : Nat, hi = (n : Int) := ⟨hi.toNat, by omega⟩
        exact shortest_S bb wb m n (by omega) (by omega) a c xs p W hk.1 hk.2.1 hk.2.2 hfr hto hsd hou))
      clear hfr hto hbo hwo HVv HUu
      go_wp2_with fail
      refine (HIn.out _ _ _ _).mono ?_
      rintro e w6 ⟨rfl, rfl⟩
      (try rw [hb])
      clear hb
      cases b with
      | false =>
        have HGG := hid (show G = ((0, 0, []), 2) by rw [HG.out]; rfl)
        obtain ⟨-, r0, r1, r2, rz⟩ := HR5.out
        have z0 := rz 0
        have z1 := rz 1
        have z2 := rz 2
        clear rz
        go_wp2_with fail
        refine bodyPost_ret (v := .tuple #[.agg #[.int .i8 0, .int .i8 0, .slice none 0 0], .int .i64 2]) (by simp [results, Try.results26, go_sem, r0, r1, r2]) rfl ?_
        rw [HGG.out]
        refine ⟨none, 0, rfl, ?_, World.ownsRow_nil _ _ _ _⟩
        exact below_set3 HB5.out HRb.out
      | true =>
        have hdl := inB_it.1 HBb2.out
        have HS4 := hid (HSh.out w5 HC5.out)
        go_wp2_with fail
        refine HS4.out.mono ?_
        rintro e w6 ⟨A5, c5, rfl, hb5, own5⟩
        obtain ⟨P0, hP⟩ : ∃ P, (shortG wi hi xs p).1 = P := ⟨_, rfl⟩
        obtain ⟨cd, hcd⟩ : ∃ cd, (shortG wi hi xs p).2 = cd := ⟨_, rfl⟩
        rw [hP] at own5
        rw [hP, hcd] at HG HSl
        rw [hP, hcd]
        have HC6 := hid (below_of HC5.out HC5.out.size hb5)
        have HB6 := hid (below_of HB5.out HB5.out.size hb5)
        have HR6 := hid (HR5.out.below hb5)
        have hsl := SlA.of_own Ce.enc_length own5
        have hcap := (own_caps own5).1
        have HSl5 := hid hsl
        obtain ⟨n, hn⟩ : ∃ n, P0.length = n := ⟨_, rfl⟩
        have HN := hid hn
        rw [hn] at hcap HG
        rw [hn]
        clear hb5 own5 hP hcd hsl hn
        by_cases h0 : cd = 0
        · subst h0
          have HLn0 := hid (HSl.out rfl)
          by_cases hdn : dl < (n : Int)
          · have hd : decide (dl < (n : Int)) = true := decide_eq_true hdn
            have HGG := hid (show G = ((0, 0, []), 6) by have h := HG.out; simp only [eq_self_iff_true, Bool.and_self, if_true, if_pos hdn] at h; exact h)
            obtain ⟨-, r0, r1, r2, rz⟩ := HR6.out
            have z0 := rz 0
            have z1 := rz 1
            have z2 := rz 2
            clear rz hdn
            go_wp2_with fail
            refine bodyPost_ret (v := .tuple #[.agg #[.int .i8 0, .int .i8 0, .slice none 0 0], .int .i64 6]) (by simp [results, Try.results26, go_sem, r0, r1, r2]) rfl ?_
            rw [HGG.out]
            refine ⟨none, 0, rfl, ?_, World.ownsRow_nil _ _ _ _⟩
            exact below_set3 HB6.out HRb.out
          · have hd : decide (dl < (n : Int)) = false := decide_eq_false hdn
            have HGG := hid (show G = ((match growL wi hi xs (endsL p) dl (needL dl n) P0 with
              | none => ((0, 0, []), 6)
              | some P => if 200 < xs.length + P.length ∨ 120 < P.length then ((0, 0, []), 3) else ((wi, hi, xs ++ slowL (lineL P p.sd p.ou) dl), 0)) : (Int × Int × List Pc) × Int) by have h := HG.out; simp only [eq_self_iff_true, Bool.and_self, if_true, if_neg hdn] at h; exact h)
            have hnd : (n : Int) ≤ dl := by omega
            have h0n : n ≤ 1000 := by omega
            clear hdn HG
            obtain ⟨-, -, ⟨-, y0, y1, y2, y3, y4, y5⟩⟩ := HK.out w6 HC6.out
            have hf : -100 ≤ p.fx ∧ p.fx ≤ 100 ∧ -100 ≤ p.fy ∧ p.fy ≤ 100 := by have := free_in ((wayB_in HWo.out).1.1); omega
            have ht : -100 ≤ p.tx ∧ p.tx ≤ 100 ∧ -100 ≤ p.ty ∧ p.ty ≤ 100 := by have := free_in ((wayB_in HWo.out).1.2); omega
            have hEl := hid (show endsL p = [⟨nx p.fx p.sd, ny p.fy p.sd⟩, ⟨nx p.tx p.ou, ny p.ty p.ou⟩] from rfl)
            go_upto_region 10 with fail
            have hS0 : (w6.cell? ⟨wb, 0, none⟩ = some (.int .i8 p.fx) ∧ w6.cell? ⟨wb, 1, none⟩ = some (.int .i8 p.fy) ∧ w6.cell? ⟨wb, 2, none⟩ = some (.int .i8 p.sd) ∧ w6.cell? ⟨wb, 3, none⟩ = some (.int .i8 p.tx) ∧ w6.cell? ⟨wb, 4, none⟩ = some (.int .i8 p.ty) ∧ w6.cell? ⟨wb, 5, none⟩ = some (.int .i8 p.ou)) ∧ Below w6.heap.size w6 w6 := ⟨⟨y0, y1, y2, y3, y4, y5⟩, Below.refl _ _⟩
            have hS1 := endS_drew hS0
            clear y0 y1 y2 y3 y4 y5 hS0 hd
            go_cut [10] from 41 to 53 (fun s10 wx => ∃ kb : Nat, s10 = .slice (some ⟨kb, 0, none⟩) 2 2 ∧ Below w6.heap.size w6 wx ∧ SlA Ce.enc 2 wx (some ⟨kb, 0, none⟩) (endsL p))
            case first =>
              go_region_held3 (fun w' => (w'.cell? ⟨wb, 0, none⟩ = some (.int .i8 p.fx) ∧ w'.cell? ⟨wb, 1, none⟩ = some (.int .i8 p.fy) ∧ w'.cell? ⟨wb, 2, none⟩ = some (.int .i8 p.sd) ∧ w'.cell? ⟨wb, 3, none⟩ = some (.int .i8 p.tx) ∧ w'.cell? ⟨wb, 4, none⟩ = some (.int .i8 p.ty) ∧ w'.cell? ⟨wb, 5, none⟩ = some (.int .i8 p.ou)) ∧ Below w6.heap.size w6 w')
                (first | with_reducible assumption | with_reducible exact hS1 | with_reducible exact endS_alloc _ R5 | fail)
                (first
                  | (go_at_call 54; have mark := R4; refine (next_S _ _ _ _ ?h0 ?h1).mono ?_; (case h0 => first | with_reducible exact hf | with_reducible exact ht); (case h1 => first | with_reducible exact hsd | with_reducible exact hou); rintro e5 v5 ⟨rfl, hb5⟩; have R5 := endS_on hb5 R4)
                  | (go_at_call 54; refine (next_S _ _ _ _ ?h0 ?h1).mono ?_; (case h0 => first | with_reducible exact hf | with_reducible exact ht); (case h1 => first | with_reducible exact hsd | with_reducible exact hou); rintro e4 v4 ⟨rfl, hb4⟩; have R4 := endS_on hb4 hS1))
              all_goals (
                go_wp2_with fail
                go_meet
                refine ⟨_, rfl, R5.2.alloc R5.2.size _, ?_⟩
                rw [hEl.out]
                exact SlA.of_own (base := v5.heap.size) Ce.enc_length (World.ownsRow_lit v5 #[.int .i8 (nx p.fx p.sd), .int .i8 (ny p.fy p.sd), .int .i8 (nx p.tx p.ou), .int .i8 (ny p.ty p.ou)] 2 (Nat.le_refl _) (by simp [maxLen]) (by simp)))
            case rest =>
              obtain ⟨kb, rfl, hbk, hke⟩ := hcut
              obtain ⟨w7, hw7⟩ : ∃ W, W = wc := ⟨_, rfl⟩
              subst hw7
              have HC7 := hid (below_of HC6.out HC6.out.size hbk)
              have HB7 := hid (below_of HB6.out HB6.out.size hbk)
              have HR7 := hid (HR6.out.below hbk)
              have HS7 := hid (HSl5.out.below hbk)
              have HKe := hid hke
              clear hbk hke hS1
              have HNx := hid (fun (P R : List Ce) (h9 : 9 * (P.length : Int) < dl) (hl : longerG wi hi xs P (endsL p) = (R, true)) => grow_next h9 hl)
              have HNn := hid (fun (P : List Ce) (h9 : 9 * (P.length : Int) < dl) (hl : (longerG wi hi xs P (endsL p)).2 = false) => grow_none h9 hl)
              have HNs := hid (fun (P : List Ce) (h9 : ¬ 9 * (P.length : Int) < dl) f => grow_stop (wi := wi) (hi := hi) (xs := xs) (B := endsL p) h9 f)
              go_wp2_with fail
              go_loopg [8] (needL dl n) (fun gk cv wr => ∃ (P : List Ce) (A : Option Addr) (n' c' : Nat), gk = needL dl n' ∧ cv = .slice A n' c' ∧ P.length = n' ∧ SlA Ce.enc 2 wr A P ∧ n' ≤ c' ∧ LnOk wi hi xs p P ∧ (n' : Int) ≤ dl ∧ growL wi hi xs (endsL p) dl (needL dl n) P0 = growL wi hi xs (endsL p) dl (needL dl n') P ∧ Below w7.heap.size w7 wr)
              case atStart => exact ⟨P0, A5, n, c5, rfl, rfl, HN.out, HS7.out, hcap, HLn0.out, hnd, rfl, Below.refl _ _⟩
              case round =>
                obtain ⟨P, A, n', c', rfl, rfl, hPn, hsl, hcp, hln, hnd', hgr, hbl⟩ := hrel
                have h576 := ln_len hln hwi hhi
                have hC := below_of HC7.out HC7.out.size hbl
                have HCw := hid hC
                have HBw := hid (below_of HB7.out HB7.out.size hbl)
                have HRw := hid (HR7.out.below hbl)
                have HBl := hid hbl
                have w9 : IntKind.i64.wrap (9 * (n' : Int)) = 9 * (n' : Int) := IntWalk.i64_in _ (by omega)
                have HLn := hid hln
                have HGr := hid hgr
                have HPn := hid hPn
                have HSl' := hid hsl
                have hin := ln_in hln hwi.2 hhi.2
                by_cases h9 : 9 * (n' : Int) < dl
                · have hd : decide (9 * (n' : Int) < dl) = true := decide_eq_true h9
                  have HLg := hid (longer_S bb wi hi a c xs A c' P (some ⟨kb, 0, none⟩) 2 (endsL p) wr ⟨wl, wu, hl, hu⟩ (HK.out wr hC).1 (HK.out wr hC).2.1 hsl (by omega) (by omega) hin (HKe.out.below hbl))
                  rw [hPn, show (endsL p).length = 2 from rfl] at HLg
                  have H9 := hid h9
                  clear hPn hsl hln hgr hbl hC h9
                  go_wp2_with fail
                  refine HLg.out.mono ?_
                  rintro e w8 ⟨A7, c7, rfl, hb8, own7⟩
                  have HB8 := hid (below_of HBw.out HBw.out.size hb8)
                  have HBl8 := hid (below_of HBl.out HBl.out.size hb8)
                  have HR8 := hid (HRw.out.below hb8)
                  have hs7 := SlA.of_own Ce.enc_length own7
                  have HS8 := hid hs7
                  have hc7 := (own_caps own7).1
                  obtain ⟨R7, hR7⟩ : ∃ R, (longerG wi hi xs P (endsL p)).1 = R := ⟨_, rfl⟩
                  obtain ⟨f7, hf7⟩ : ∃ f, (longerG wi hi xs P (endsL p)).2 = f := ⟨_, rfl⟩
                  rw [hR7] at HS8 hc7
                  rw [hR7, hf7]
                  have HF7 := hid hf7
                  have HE7 := hid hR7
                  obtain ⟨m7, hm7⟩ : ∃ m, R7.length = m := ⟨_, rfl⟩
                  rw [hm7] at hc7
                  rw [hm7]
                  have HM7 := hid hm7
                  clear hb8 own7 hs7 hR7 hf7 hm7
                  cases f7 with
                  | false =>
                    have HGN := hid (show G = ((0, 0, []), 6) by
                      have := HGG.out
                      rw [HGr.out, ← HPn.out, HNn.out P (by rw [HPn.out]; exact H9.out) HF7.out] at this
                      exact this)
                    obtain ⟨-, r0, r1, r2, rz⟩ := HR8.out
                    have z0 := rz 0
                    have z1 := rz 1
                    have z2 := rz 2
                    clear rz
                    go_wp2_with fail
                    refine bodyPost_ret (v := .tuple #[.agg #[.int .i8 0, .int .i8 0, .slice none 0 0], .int .i64 6]) (by simp [results, Try.results26, go_sem, r0, r1, r2]) rfl ?_
                    rw [HGN.out]
                    refine ⟨none, 0, rfl, ?_, World.ownsRow_nil _ _ _ _⟩
                    exact below_set3 HB8.out HRb.out
                  | true =>
                    have hyes : longerG wi hi xs P (endsL p) = (R7, true) := by rw [← HE7.out, ← HF7.out]
                    have hlr := longer_len hyes
                    have HYe := hid hyes
                    have hm : m7 = n' + 2 := by rw [← HM7.out, hlr, HPn.out]
                    have HMe := hid hm
                    clear hyes hlr hm
                    go_wp2_with fail
                    go_roundg (needL dl m7)
                    case measure => rw [HMe.out]; exact need_less H9.out
                    case rel =>
                      exact ⟨R7, A7, m7, c7, rfl, rfl, HM7.out, HS8.out, hc7, longer_ln HLn.out HYe.out, by have := HMe.out; have := H9.out; have := HLn.out.line.n; have := HPn.out; omega, by
                        rw [HGr.out, ← HPn.out, HNx.out P R7 (by rw [HPn.out]; exact H9.out) HYe.out, HM7.out], HBl8.out⟩
                · have hd : decide (9 * (n' : Int) < dl) = false := decide_eq_false h9
                  have HGf := hid (show G = laidG wi hi xs (slowL (lineL P p.sd p.ou) dl) by
                    have := HGG.out
                    rw [HGr.out, HNs.out P (by rw [hPn]; omega)] at this
                    rw [this]
                    unfold laidG
                    rw [slowL_len, lineL_len])
                  have HSg := hid (show slowG (lineL P p.sd p.ou) dl = (slowL (lineL P p.sd p.ou) dl, 0) by unfold slowG; rw [lineL_len, if_neg (by omega)])
                  have hn0 := hln.line.n
                  have HPs := hid (pieces_LS A c' n' P p.sd p.ou wr hln.line hPn.symm (by omega) hsl hin)
                  have HLl := hid (show (lineL P p.sd p.ou).length = n' by rw [lineL_len, hPn])
                  obtain ⟨-, -, ⟨-, y0, y1, y2, y3, y4, y5⟩⟩ := HK.out wr hC
                  have hn0' : 0 < n' := by omega
                  have hn576 : n' ≤ 576 := by omega
                  generalize lineL P p.sd p.ou = LL at *
                  clear hPn hsl hln hgr hbl hC h9 hin h576 hn0
                  go_wp2_with fail
                  refine HPs.out.mono ?_
                  rintro e w8 ⟨A8, c8, rfl, hb8, own8⟩
                  have hnil8 : A8 = none → c8 = 0 := fun e => by subst e; exact own_nil_cap own8
                  have hs8 : SlA Pc.enc 5 w8 A8 LL := SlA.of_own Pc.enc_length (by rw [HLl.out]; exact own8)
                  have HSw := hid (slow_S A8 c8 n' LL dl w8 HLl.out.symm hs8 hnil8 hn0' (by omega) (by omega))
                  rw [HSg.out] at HSw
                  have HB8 := hid (below_of HBw.out HBw.out.size hb8)
                  have HC8 := hid (below_of HCw.out HCw.out.size hb8)
                  have HR8 := hid (HRw.out.below hb8)
                  clear hb8 own8 hnil8 hs8 y0 y1 y2 y3 y4 y5
                  go_wp2_with fail
                  refine HSw.out.mono ?_
                  rintro e w9' ⟨A9, c9, rfl, hb9, own9⟩
                  have HSl9 := hid (slowL_len LL dl)
                  obtain ⟨SL, hSL⟩ : ∃ SL, slowL LL dl = SL := ⟨_, rfl⟩
                  rw [hSL] at own9 HSl9 HGf
                  have HC9 := hid (below_of HC8.out HC8.out.size hb9)
                  have HB9 := hid (below_of HB8.out HB8.out.size hb9)
                  have HR9 := hid (HR8.out.below hb9)
                  have hs9 := SlA.of_own Pc.enc_length own9
                  have hm9 : SL.length = n' := by rw [HSl9.out, HLl.out]
                  have HLd := hid (laid_LS bb wi hi a c xs A9 c9 n' SL w9' hs (HK.out w9' HC9.out).1 (HK.out w9' HC9.out).2.1 hnc hm9.symm hn0' (by omega) hs9)
                  rw [← HGf.out] at HLd
                  (try rw [hSL])
                  rw [hm9]
                  clear hb9 own9 hs9 hm9 hSL
                  go_wp2_with fail
                  refine HLd.out.mono ?_
                  rintro e wA ⟨AB, cB, rfl, hbA, ownA⟩
                  obtain ⟨-, r0, r1, r2, rz⟩ := HR9.out.below hbA
                  have z0 := rz 0
                  have z1 := rz 1
                  have z2 := rz 2
                  have HRl := hid HR9.out.lt
                  have HBA := hid (below_of HB9.out HB9.out.size hbA)
                  have HOA := hid ownA
                  clear rz hbA ownA
                  go_wp2_with fail
                  refine bodyPost_ret (v := .tuple #[.agg #[.int .i8 G.1.1, .int .i8 G.1.2.1, .slice AB G.1.2.2.length cB], .int .i64 G.2]) (by simp [results, Try.results26, go_sem, r0, r1, r2]) rfl ⟨AB, cB, rfl, ?_, ?_⟩
                  · exact below_set3 HBA.out HRb.out
                  · have hnb : ∀ k, (Value.slice AB G.1.2.2.length cB).ownBlock = some k → k ≠ rb := fun k hk => by
                      have h1 := (HOA.out.lt k hk).1
                      have h2 := HRl.out
                      omega
                    exact own_setE (own_setE (own_setE (own_low HOA.out HB9.out.size) hnb _) hnb _) hnb _
        · have hne : (cd != 0) = true := by simpa using h0
          have HGG := hid (show G = ((0, 0, []), cd) by have h := HG.out; simp only [eq_self_iff_true, Bool.and_self, if_true, if_neg h0] at h; exact h)
          obtain ⟨-, r0, r1, r2, rz⟩ := HR6.out
          have z0 := rz 0
          have z1 := rz 1
          have z2 := rz 2
          clear rz h0
          go_wp2_with fail
          refine bodyPost_ret (v := .tuple #[.agg #[.int .i8 0, .int .i8 0, .slice none 0 0], .int .i64 cd]) (by simp [results, Try.results26, go_sem, r0, r1, r2]) rfl ?_
          rw [HGG.out]
          refine ⟨none, 0, rfl, ?_, World.ownsRow_nil _ _ _ _⟩
          exact below_set3 HB6.out HRb.out
def LayDelKG (wi hi : Int) (xs : List Pc) (p : Wy) (dl : Int) : (Int × Int × List Pc) × Int := delayG wi hi xs p dl
theorem LayDelK_S (w : World) (wi hi : Int) (wl : -128 ≤ wi) (wu : wi ≤ 127) (hl : -128 ≤ hi) (hu : hi ≤ 127) (a : Option Addr) (c : Nat) (xs : List Pc) (h : SlA Pc.enc 5 w a xs) (hnc : a = none → c = 0) (ok : ∀ p ∈ xs, p.Ok) (hs : xs.length ≤ 1048576) (p : Wy) (okp : p.Ok) (dl : Int) (dl0 : -9223372036854775808 ≤ dl) (dl1 : dl ≤ 9223372036854775807) :
    Calls Try.prog 26 #[.agg #[.int .i8 wi, .int .i8 hi, .slice a xs.length c], .agg p.enc.toArray, .int .i64 dl] w (ResB w (LayDelKG wi hi xs p dl).1.1 (LayDelKG wi hi xs p dl).1.2.1 (LayDelKG wi hi xs p dl).1.2.2 (LayDelKG wi hi xs p dl).2) :=
  LayWithDelay_S w wi hi wl wu hl hu a c xs h hnc ok hs p okp dl dl0 dl1
theorem LayDelK_I (w : World) (wi hi : Int) (wl : -128 ≤ wi) (wu : wi ≤ 127) (hl : -128 ≤ hi) (hu : hi ≤ 127) (a : Option Addr) (c : Nat) (xs : List Pc) (h : SlA Pc.enc 5 w a xs) (hnc : a = none → c = 0) (ok : ∀ p ∈ xs, p.Ok) (hs : xs.length ≤ 1048576) (p : Wy) (okp : p.Ok) (dl : Int) (dl0 : -9223372036854775808 ≤ dl) (dl1 : dl ≤ 9223372036854775807) :
    Calls Try.prog 27 #[.agg #[.int .i8 wi, .int .i8 hi, .slice a xs.length c], .agg p.enc.toArray, .int .i64 dl] w (ResB w (LayDelKG wi hi xs p dl).1.1 (LayDelKG wi hi xs p dl).1.2.1 (LayDelKG wi hi xs p dl).1.2.2 (LayDelKG wi hi xs p dl).2) :=
  LayWithDelay_I w wi hi wl wu hl hu a c xs h hnc ok hs p okp dl dl0 dl1
theorem LayDelK_len (wi hi : Int) (xs : List Pc) (p : Wy) (dl : Int) (h : xs.length ≤ 1048576) : (LayDelKG wi hi xs p dl).1.2.2.length ≤ 1048576 := by
  unfold LayDelKG delayG
  split
  · split
    · split
      · split
        · simp
        · split
          · simp
          · split
            · simp
            · rename_i h1
              show (xs ++ slowL (lineL _ p.sd p.ou) dl).length ≤ 1048576
              rw [List.length_append, slowL_len, lineL_len]
              omega
      · simp
    · simp
  · simp
end Go.Proofs.Ytgkgklgeobbmlaa
