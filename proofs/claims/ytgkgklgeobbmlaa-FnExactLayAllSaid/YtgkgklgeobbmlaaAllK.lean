/-
  LayAll, both the program's and the reference's.
  Conditions: the fields are in their kinds' ranges.
-/
import Derived.Test.YtgkgklgeobbmlaaAllI
namespace Go.Proofs.Ytgkgklgeobbmlaa
open Go.RowKit
set_option linter.unusedSimpArgs false
set_option linter.unusedVariables false

theorem cnt_ways (ws : List Wy) : (cntZ ws.length).map (fun i => ws.getD i.toNat ⟨0, 0, 0, 0, 0, 0⟩) = ws := by
  unfold cntZ
  rw [List.map_map]
  refine List.ext_getElem? fun i => ?_
  rw [List.getElem?_map]
  rcases Nat.lt_or_ge i ws.length with h | h
  · rw [List.getElem?_range h, List.getElem?_eq_getElem h]
    show some (ws.getD ((i : Int)).toNat _) = _
    rw [Int.toNat_natCast, List.getD_eq_getElem?_getD, List.getElem?_eq_getElem h]
    rfl
  · rw [List.getElem?_eq_none (by rw [List.length_range]; exact h), List.getElem?_eq_none h]
    rfl
theorem layAll_eq (wi hi : Int) (xs : List Pc) (ws : List Wy) : LayAllG wi hi xs ws = if bdOk wi hi xs = true then (if ws.length ≤ 12 then all3G wi hi xs ws else ((0, 0, []), 0, 2)) else ((0, 0, []), 0, 1) := rfl
set_option maxRecDepth 100000 in
set_option maxHeartbeats 8000000 in
theorem LayAll_I (w : World) (wi hi : Int) (wl : -128 ≤ wi) (wu : wi ≤ 127) (hl : -128 ≤ hi) (hu : hi ≤ 127) (a : Option Addr) (c : Nat) (xs : List Pc) (h : SlA Pc.enc 5 w a xs) (hnc : a = none → c = 0) (ok : ∀ p ∈ xs, p.Ok) (hs : xs.length ≤ 1048576) (al : Option Addr) (cl : Nat) (ws : List Wy) (hw : SlA Wy.enc 6 w al ws) (hnc2 : al = none → cl = 0) (okw : ∀ p ∈ ws, p.Ok) (hs2 : ws.length ≤ 1048576) :
    Calls Try.prog 18 #[.agg #[.int .i8 wi, .int .i8 hi, .slice a xs.length c], .slice al ws.length cl] w (ResK3 w (LayAllG wi hi xs ws)) := by
  obtain ⟨W1, hW1⟩ : ∃ W, W = w.alloc (.cells #[.int .i8 wi, .int .i8 hi, .slice a xs.length c] 32) := ⟨_, rfl⟩
  have B1 : Below w.heap.size w W1 := by rw [hW1]; exact (Below.refl _ _).alloc (Nat.le_refl _) _
  have bd1 : BdA W1 w.heap.size wi hi a xs.length c := by rw [hW1]; exact bd_box _ _ _ _ _ _ _
  obtain ⟨W2, hW2⟩ : ∃ W, W = W1.alloc (.cells #[.int .i8 0, .int .i8 0, .slice none 0 0] 32) := ⟨_, rfl⟩
  have B2 : Below W1.heap.size W1 W2 := by rw [hW2]; exact (Below.refl _ _).alloc (Nat.le_refl _) _
  have HR := hid (show BoQ W2 W1.heap.size 0 0 none 0 0 by rw [hW2]; exact boq_new _ _ _ _ _ _ _)
  have hs1 : W1.heap.size = w.heap.size + 1 := by rw [hW1]; simp
  have hb2 := below_of B1 B1.size B2
  have HB2 := hid hb2
  have hbd2 := bd1.below B2 bd1.lt
  have HK := hid (fun W (hW : Below W2.heap.size W2 W) => (⟨hbd2.below hW hbd2.lt, (h.below hb2).below hW, (hw.below hb2).below hW⟩ : BdA W w.heap.size wi hi a xs.length c ∧ SlA Pc.enc 5 W a xs ∧ SlA Wy.enc 6 W al ws))
  rw [hs1] at HR
  rw [hW1] at hW2
  have HG := hid (layAll_eq wi hi xs ws)
  have HV := hid (ValidBoard_I wi hi a c xs W2 ⟨wl, wu, hl, hu⟩ (h.below hb2) ok)
  have HLa := hid (fun W (hW : Below W2.heap.size W2 W) (hbo : bdOk wi hi xs = true) => layAll_I wi hi wl wu hl hu a c xs hs hnc ok hbo al cl ws.length ws rfl hs2 okw W (HK.out W hW).2.1 (HK.out W hW).2.2)
  obtain ⟨v, hv⟩ : ∃ v, bdOk wi hi xs = v := ⟨_, rfl⟩
  rw [hv] at HV HG
  have HVv := hid hv
  generalize LayAllG wi hi xs ws = R at *
  generalize all3G wi hi xs ws = R3 at *
  obtain ⟨g0, g1, g2⟩ : W2.cell? ⟨w.heap.size, 0, none⟩ = some (.int .i8 wi) ∧ W2.cell? ⟨w.heap.size, 1, none⟩ = some (.int .i8 hi) ∧ W2.cell? ⟨w.heap.size, 2, none⟩ = some (.slice a xs.length c) := ⟨hbd2.c0, hbd2.c1, hbd2.c2⟩
  obtain ⟨n, hn⟩ : ∃ n, ws.length = n := ⟨_, rfl⟩
  rw [hn] at HG HLa hs2
  rw [hn]
  obtain ⟨bb, hbb⟩ : ∃ bb, w.heap.size = bb := ⟨_, rfl⟩
  obtain ⟨rb, hrb⟩ : ∃ rb, bb + 1 = rb := ⟨_, rfl⟩
  have HRb := hid (show w.heap.size ≤ rb by omega)
  rw [hbb] at HR HK g0 g1 g2
  rw [hrb] at HR
  clear h hw okw ok B1 B2 bd1 hs1 hb2 hbd2 hW1 hv hn
  go_enter Try.func18, Try.ntmps18
  go_upto_region 1 with fail
  rw [← hW2]
  (try rw [hbb])
  (try rw [hrb])
  clear hW2 hbb hrb
  go_wp2_with fail
  refine HV.out.mono ?_
  rintro e w4 ⟨rfl, hb4⟩
  have HR4 := hid (HR.out.below hb4)
  have HC4 := hid hb4
  have HB4 := hid (below_of HB2.out HB2.out.size hb4)
  obtain ⟨-, r0, r1, r2, rz⟩ := HR4.out
  have z0 := rz 0
  have z1 := rz 1
  have z2 := rz 2
  clear rz g0 g1 g2
  cases v with
  | false =>
    have HGG := hid (show R = ((0, 0, []), 0, 1) by rw [HG.out]; rfl)
    clear hb4
    go_wp2_with fail
    refine bodyPost_ret (v := .tuple #[.agg #[.int .i8 0, .int .i8 0, .slice none 0 0], .int .i64 0, .int .i64 1]) (by simp [results, Try.results18, go_sem, r0, r1, r2]) rfl ?_
    rw [HGG.out]
    exact ⟨none, 0, rfl, below_set3 HB4.out HRb.out, World.ownsRow_nil _ _ _ _⟩
  | true =>
    by_cases hl12 : n ≤ 12
    · have hd : decide ((12 : Int) < (n : Int)) = false := by rw [decide_eq_false_iff_not]; omega
      have hd2 : decide (12 < n) = false := by rw [decide_eq_false_iff_not]; omega
      have HGG := hid (show R = R3 by rw [HG.out, if_pos rfl, if_pos hl12])
      have HL4 := hid (HLa.out w4 HC4.out HVv.out)
      rw [← HGG.out] at HL4
      obtain ⟨⟨-, g0, g1, g2⟩, -, -⟩ := HK.out w4 HC4.out
      clear hl12 hb4 r0 r1 r2 z0 z1 z2
      go_wp2_with fail
      refine HL4.out.mono ?_
      rintro e w6 ⟨A9, c9, rfl, hb6, own6⟩
      obtain ⟨-, r0, r1, r2, rz⟩ := HR4.out.below hb6
      have z0 := rz 0
      have z1 := rz 1
      have z2 := rz 2
      have HRl := hid HR4.out.lt
      have HB6 := hid (below_of HB4.out HB4.out.size hb6)
      have HO6 := hid own6
      clear rz hb6 own6
      go_wp2_with fail
      refine bodyPost_ret (v := .tuple #[.agg #[.int .i8 R.1.1, .int .i8 R.1.2.1, .slice A9 R.1.2.2.length c9], .int .i64 R.2.1, .int .i64 R.2.2]) (by simp [results, Try.results18, go_sem, r0, r1, r2]) rfl ⟨A9, c9, rfl, below_set3 HB6.out HRb.out, ?_⟩
      have hnb : ∀ k, (Value.slice A9 R.1.2.2.length c9).ownBlock = some k → k ≠ rb := fun k hk => by
        have h1 := (HO6.out.lt k hk).1
        have h2 := HRl.out
        omega
      exact own_setE (own_setE (own_setE (own_low HO6.out HB4.out.size) hnb _) hnb _) hnb _
    · have hd : decide ((12 : Int) < (n : Int)) = true := by rw [decide_eq_true_iff]; omega
      have hd2 : decide (12 < n) = true := by rw [decide_eq_true_iff]; omega
      have HGG := hid (show R = ((0, 0, []), 0, 2) by rw [HG.out, if_pos rfl, if_neg hl12])
      clear hb4 hl12
      go_wp2_with fail
      refine bodyPost_ret (v := .tuple #[.agg #[.int .i8 0, .int .i8 0, .slice none 0 0], .int .i64 0, .int .i64 2]) (by simp [results, Try.results18, go_sem, r0, r1, r2]) rfl ?_
      rw [HGG.out]
      exact ⟨none, 0, rfl, below_set3 HB4.out HRb.out, World.ownsRow_nil _ _ _ _⟩
set_option maxRecDepth 100000 in
set_option maxHeartbeats 8000000 in
theorem LayAll_S (w : World) (wi hi : Int) (wl : -128 ≤ wi) (wu : wi ≤ 127) (hl : -128 ≤ hi) (hu : hi ≤ 127) (a : Option Addr) (c : Nat) (xs : List Pc) (h : SlA Pc.enc 5 w a xs) (hnc : a = none → c = 0) (ok : ∀ p ∈ xs, p.Ok) (hs : xs.length ≤ 1048576) (al : Option Addr) (cl : Nat) (ws : List Wy) (hw : SlA Wy.enc 6 w al ws) (hnc2 : al = none → cl = 0) (okw : ∀ p ∈ ws, p.Ok) (hs2 : ws.length ≤ 1048576) :
    Calls Try.prog 16 #[.agg #[.int .i8 wi, .int .i8 hi, .slice a xs.length c], .slice al ws.length cl] w (ResK3 w (LayAllG wi hi xs ws)) := by
  obtain ⟨W1, hW1⟩ : ∃ W, W = w.alloc (.cells #[.int .i8 wi, .int .i8 hi, .slice a xs.length c] 32) := ⟨_, rfl⟩
  have B1 : Below w.heap.size w W1 := by rw [hW1]; exact (Below.refl _ _).alloc (Nat.le_refl _) _
  have bd1 : BdA W1 w.heap.size wi hi a xs.length c := by rw [hW1]; exact bd_box _ _ _ _ _ _ _
  obtain ⟨W2, hW2⟩ : ∃ W, W = W1.alloc (.cells #[.int .i8 0, .int .i8 0, .slice none 0 0] 32) := ⟨_, rfl⟩
  have B2 : Below W1.heap.size W1 W2 := by rw [hW2]; exact (Below.refl _ _).alloc (Nat.le_refl _) _
  have HR := hid (show BoQ W2 W1.heap.size 0 0 none 0 0 by rw [hW2]; exact boq_new _ _ _ _ _ _ _)
  have hs1 : W1.heap.size = w.heap.size + 1 := by rw [hW1]; simp
  have hb2 := below_of B1 B1.size B2
  have HB2 := hid hb2
  have hbd2 := bd1.below B2 bd1.lt
  have HK := hid (fun W (hW : Below W2.heap.size W2 W) => (⟨hbd2.below hW hbd2.lt, (h.below hb2).below hW, (hw.below hb2).below hW⟩ : BdA W w.heap.size wi hi a xs.length c ∧ SlA Pc.enc 5 W a xs ∧ SlA Wy.enc 6 W al ws))
  rw [hs1] at HR
  rw [hW1] at hW2
  have HG := hid (layAll_eq wi hi xs ws)
  have HG3 := hid (show all3G wi hi xs ws = (if (allG wi hi xs ws).2 = 0 then ((allG wi hi xs ws).1, ((allG wi hi xs ws).1.2.2.length : Int) - xs.length, 0) else ((0, 0, []), 0, (allG wi hi xs ws).2) : (Int × Int × List Pc) × Int × Int) from rfl)
  have HV := hid (ok_S w.heap.size wi hi a c xs W2 ⟨wl, wu, hl, hu⟩ hbd2 (h.below hb2) ok)
  have HLa := hid (fun W (hW : Below W2.heap.size W2 W) (hbo : bdOk wi hi xs = true) ao co no (hno : no = (cntZ ws.length).length) (hn2 : no ≤ 1048576) (ho : SlA en1 1 W ao (cntZ ws.length)) => all_LS w.heap.size wi hi a c xs hs hnc ok hbo al cl ws.length ws rfl okw ao co no (cntZ ws.length) hno hn2 (fun i hi' => by
    unfold cntZ at hi'
    obtain ⟨k, hk, rfl⟩ := List.mem_map.1 hi'
    rw [List.mem_range] at hk
    omega) W (HK.out W hW).1 (HK.out W hW).2.1 (HK.out W hW).2.2 ho)
  rw [cnt_ways] at HLa
  have HCn := hid (fun W => count_S5 ws.length W hs2)
  have HAl := hid (fun hb => all_len (wi := wi) (hi := hi) ws (xs := xs) hb)
  obtain ⟨v, hv⟩ : ∃ v, bdOk wi hi xs = v := ⟨_, rfl⟩
  rw [hv] at HV HG
  have HVv := hid hv
  generalize LayAllG wi hi xs ws = R at *
  generalize all3G wi hi xs ws = R3 at *
  generalize allG wi hi xs ws = GA at *
  obtain ⟨g0, g1, g2⟩ : W2.cell? ⟨w.heap.size, 0, none⟩ = some (.int .i8 wi) ∧ W2.cell? ⟨w.heap.size, 1, none⟩ = some (.int .i8 hi) ∧ W2.cell? ⟨w.heap.size, 2, none⟩ = some (.slice a xs.length c) := ⟨hbd2.c0, hbd2.c1, hbd2.c2⟩
  have HX2 := hid (fun (hb : bdOk wi hi xs = true) => (bd_in hb).2.2)
  obtain ⟨n, hn⟩ : ∃ n, ws.length = n := ⟨_, rfl⟩
  rw [hn] at HG HLa hs2 HCn
  rw [hn]
  obtain ⟨bb, hbb⟩ : ∃ bb, w.heap.size = bb := ⟨_, rfl⟩
  obtain ⟨rb, hrb⟩ : ∃ rb, bb + 1 = rb := ⟨_, rfl⟩
  have HRb := hid (show w.heap.size ≤ rb by omega)
  rw [hbb] at HR HK g0 g1 g2 HV HLa
  rw [hrb] at HR
  have HBr := hid (show bb < rb by omega)
  clear h hw okw ok B1 B2 bd1 hs1 hb2 hbd2 hW1 hv hn
  go_enter Try.func16, Try.ntmps16
  go_upto_region 1 with fail
  rw [← hW2]
  (try rw [hbb])
  (try rw [hrb])
  clear hW2 hbb hrb
  go_wp2_with fail
  refine HV.out.mono ?_
  rintro e w4 ⟨rfl, hb4⟩
  have HR4 := hid (HR.out.below hb4)
  have HC4 := hid hb4
  have HB4 := hid (below_of HB2.out HB2.out.size hb4)
  obtain ⟨-, r0, r1, r2, rz⟩ := HR4.out
  have z0 := rz 0
  have z1 := rz 1
  have z2 := rz 2
  clear rz g0 g1 g2
  cases v with
  | false =>
    have HGG := hid (show R = ((0, 0, []), 0, 1) by rw [HG.out]; rfl)
    clear hb4
    go_wp2_with fail
    refine bodyPost_ret (v := .tuple #[.agg #[.int .i8 0, .int .i8 0, .slice none 0 0], .int .i64 0, .int .i64 1]) (by simp [results, Try.results16, go_sem, r0, r1, r2]) rfl ?_
    rw [HGG.out]
    exact ⟨none, 0, rfl, below_set3 HB4.out HRb.out, World.ownsRow_nil _ _ _ _⟩
  | true =>
    by_cases hl12 : n ≤ 12
    · have hd : decide ((12 : Int) < (n : Int)) = false := by rw [decide_eq_false_iff_not]; omega
      have hd2 : decide (12 < n) = false := by rw [decide_eq_false_iff_not]; omega
      have HGG := hid (show R = R3 by rw [HG.out, if_pos rfl, if_pos hl12])
      clear hb4 r0 r1 r2 z0 z1 z2 hl12
      go_wp2_with fail
      refine (HCn.out _).mono ?_
      rintro e w5 ⟨A5, c5, rfl, hb5, own5⟩
      have HC5 := hid (below_of HC4.out HC4.out.size hb5)
      have HB5 := hid (below_of HB4.out HB4.out.size hb5)
      have HR5 := hid (HR4.out.below hb5)
      have hcl := cntZ_len n
      have HL5 := hid (HLa.out w5 HC5.out HVv.out A5 c5 n hcl.symm hs2 (SlA.of_own en1_length own5))
      rw [hcl]
      clear hb5 own5 hcl
      go_wp2_with fail
      refine HL5.out.mono ?_
      rintro e w6 ⟨A6, c6, rfl, hb6, own6⟩
      have HC6 := hid (below_of HC5.out HC5.out.size hb6)
      have HB6 := hid (below_of HB5.out HB5.out.size hb6)
      have HR6 := hid (HR5.out.below hb6)
      obtain ⟨W7, hW7⟩ : ∃ W, W = w6.alloc (.cells #[.int .i8 GA.1.1, .int .i8 GA.1.2.1, .slice A6 GA.1.2.2.length c6] 32) := ⟨_, rfl⟩
      have hb7 : Below w6.heap.size w6 W7 := by rw [hW7]; exact (Below.refl _ _).alloc (Nat.le_refl _) _
      have hq7 : BoQ W7 w6.heap.size GA.1.1 GA.1.2.1 A6 GA.1.2.2.length c6 := by rw [hW7]; exact boq_new _ _ _ _ _ _ _
      have HR7 := hid (HR6.out.below hb7)
      have HB7 := hid (below_of HB6.out HB6.out.size hb7)
      have HC7 := hid (below_of HC6.out HC6.out.size hb7)
      have HO7 := hid (own_low (own_step own6 hb7) HB5.out.size)
      have hne : ∀ k, (Value.slice A6 GA.1.2.2.length c6).ownBlock = some k → k ≠ rb := fun k hk => by
        have h1 := (own6.lt k hk).1
        have h2 := HR5.out.lt
        omega
      have HNe := hid hne
      obtain ⟨q, hq⟩ : ∃ q, w6.heap.size = q := ⟨_, rfl⟩
      have hqr : q ≠ rb := by have := HR6.out.lt; omega
      rw [hq] at hq7
      obtain ⟨-, q0, q1, q2, -⟩ := hq7
      obtain ⟨d, hd9⟩ : ∃ d, GA.2 = d := ⟨_, rfl⟩
      have HD := hid hd9
      obtain ⟨-, r0, r1, r2, rz⟩ := HR7.out
      have z0 := rz 0
      have z1 := rz 1
      have z2 := rz 2
      have hal := HAl.out HVv.out
      have hx2 := HX2.out HVv.out
      obtain ⟨⟨-, g0, g1, g2⟩, -, -⟩ := HK.out W7 HC7.out
      (try rw [hd9])
      clear hb6 own6 hb7 hne hd9 rz
      go_upto_region 6 with fail
      rw [← hW7]
      (try rw [hq])
      clear hW7 hq
      by_cases h0 : d = 0
      · subst h0
        have HG9 := hid (show R = (GA.1, (GA.1.2.2.length : Int) - xs.length, 0) by rw [HGG.out, HG3.out, if_pos HD.out])
        obtain ⟨⟨x1, x2, zs⟩, hz⟩ : ∃ z, GA.1 = z := ⟨_, rfl⟩
        rw [hz] at HG9 HO7 HNe q0 q1 q2 hal
        dsimp only at HG9 HO7 HNe q0 q1 q2 hal
        have wsb : IntKind.i64.wrap ((zs.length : Int) - (xs.length : Int)) = (zs.length : Int) - (xs.length : Int) := IntWalk.i64_in _ (by omega)
        have r0' : W7.drew.cell? ⟨rb, 0, none⟩ = some (.int .i8 0) := r0
        have r1' : W7.drew.cell? ⟨rb, 1, none⟩ = some (.int .i8 0) := r1
        have r2' : W7.drew.cell? ⟨rb, 2, none⟩ = some (.slice none 0 0) := r2
        clear hz
        go_wp2_with fail
        have hbr : bb ≠ rb := by have := HBr.out; omega
        go_region
        go_wp2_with fail
        refine bodyPost_ret (v := .tuple #[.agg #[.int .i8 x1, .int .i8 x2, .slice A6 zs.length c6], .int .i64 ((zs.length : Int) - xs.length), .int .i64 0]) (by simp [results, Try.results16, go_sem, r0, r1, r2]) rfl ?_
        rw [HG9.out]
        refine ⟨A6, c6, rfl, ?_, ?_⟩
        · first | exact (below_set3 HB7.out HRb.out).drew | exact below_set3 HB7.out.drew HRb.out
        · first | exact (own_setE (own_setE (own_setE HO7.out HNe.out _) HNe.out _) HNe.out _).drew | exact own_setE (own_setE (own_setE HO7.out.drew HNe.out _) HNe.out _) HNe.out _
      · have hne : (d != 0) = true := by simpa using h0
        have HG9 := hid (show R = ((0, 0, []), 0, d) by rw [HGG.out, HG3.out, if_neg (by rw [HD.out]; exact h0), HD.out])
        clear h0
        go_wp2_with fail
        refine bodyPost_ret (v := .tuple #[.agg #[.int .i8 0, .int .i8 0, .slice none 0 0], .int .i64 0, .int .i64 d]) (by simp [results, Try.results16, go_sem, r0, r1, r2]) rfl ?_
        rw [HG9.out]
        exact ⟨none, 0, rfl, below_set3 HB7.out HRb.out, World.ownsRow_nil _ _ _ _⟩
    · have hd : decide ((12 : Int) < (n : Int)) = true := by rw [decide_eq_true_iff]; omega
      have hd2 : decide (12 < n) = true := by rw [decide_eq_true_iff]; omega
      have HGG := hid (show R = ((0, 0, []), 0, 2) by rw [HG.out, if_pos rfl, if_neg hl12])
      clear hb4 hl12
      go_wp2_with fail
      refine bodyPost_ret (v := .tuple #[.agg #[.int .i8 0, .int .i8 0, .slice none 0 0], .int .i64 0, .int .i64 2]) (by simp [results, Try.results16, go_sem, r0, r1, r2]) rfl ?_
      rw [HGG.out]
      exact ⟨none, 0, rfl, below_set3 HB4.out HRb.out, World.ownsRow_nil _ _ _ _⟩
theorem LayAll_len (wi hi : Int) (xs : List Pc) (ws : List Wy) (h : xs.length ≤ 1048576) : (LayAllG wi hi xs ws).1.2.2.length ≤ 1048576 := by
  rw [layAll_eq]
  by_cases hb : bdOk wi hi xs = true
  · rw [if_pos hb]
    split
    · unfold all3G
      split
      · have := all_len (wi := wi) (hi := hi) ws hb
        show (allG wi hi xs ws).1.2.2.length ≤ 1048576
        omega
      · exact Nat.zero_le _
    · exact Nat.zero_le _
  · rw [if_neg hb]
    exact Nat.zero_le _
/-- The result of a function that hands back a board of its own and two numbers. -/
def ResB3i (w : World) (wi hi : Int) (R : List Pc) (sd cd : Int) (e : Ending) (w' : World) : Prop :=
  ∃ A c, e = .returned (.tuple #[.agg #[.int .i8 wi, .int .i8 hi, .slice A R.length c], .int .i64 sd, .int .i64 cd]) ∧ Below w.heap.size w w' ∧ w'.ownsRow w.heap.size 98 5 (.slice A R.length c) R.length (R.flatMap Pc.enc)
def LayAllKG (wi hi : Int) (xs : List Pc) (ws : List Wy) : (Int × Int × List Pc) × Int × Int := LayAllG wi hi xs ws
theorem LayAllK_S (w : World) (wi hi : Int) (wl : -128 ≤ wi) (wu : wi ≤ 127) (hl : -128 ≤ hi) (hu : hi ≤ 127) (a : Option Addr) (c : Nat) (xs : List Pc) (h : SlA Pc.enc 5 w a xs) (hnc : a = none → c = 0) (ok : ∀ p ∈ xs, p.Ok) (hs : xs.length ≤ 1048576) (al : Option Addr) (cl : Nat) (ws : List Wy) (hw : SlA Wy.enc 6 w al ws) (hnc2 : al = none → cl = 0) (okw : ∀ p ∈ ws, p.Ok) (hs2 : ws.length ≤ 1048576) :
    Calls Try.prog 16 #[.agg #[.int .i8 wi, .int .i8 hi, .slice a xs.length c], .slice al ws.length cl] w (ResB3i w (LayAllKG wi hi xs ws).1.1 (LayAllKG wi hi xs ws).1.2.1 (LayAllKG wi hi xs ws).1.2.2 (LayAllKG wi hi xs ws).2.1 (LayAllKG wi hi xs ws).2.2) :=
  LayAll_S w wi hi wl wu hl hu a c xs h hnc ok hs al cl ws hw hnc2 okw hs2
theorem LayAllK_I (w : World) (wi hi : Int) (wl : -128 ≤ wi) (wu : wi ≤ 127) (hl : -128 ≤ hi) (hu : hi ≤ 127) (a : Option Addr) (c : Nat) (xs : List Pc) (h : SlA Pc.enc 5 w a xs) (hnc : a = none → c = 0) (ok : ∀ p ∈ xs, p.Ok) (hs : xs.length ≤ 1048576) (al : Option Addr) (cl : Nat) (ws : List Wy) (hw : SlA Wy.enc 6 w al ws) (hnc2 : al = none → cl = 0) (okw : ∀ p ∈ ws, p.Ok) (hs2 : ws.length ≤ 1048576) :
    Calls Try.prog 18 #[.agg #[.int .i8 wi, .int .i8 hi, .slice a xs.length c], .slice al ws.length cl] w (ResB3i w (LayAllKG wi hi xs ws).1.1 (LayAllKG wi hi xs ws).1.2.1 (LayAllKG wi hi xs ws).1.2.2 (LayAllKG wi hi xs ws).2.1 (LayAllKG wi hi xs ws).2.2) :=
  LayAll_I w wi hi wl wu hl hu a c xs h hnc ok hs al cl ws hw hnc2 okw hs2
theorem LayAllK_len (wi hi : Int) (xs : List Pc) (ws : List Wy) (h : xs.length ≤ 1048576) : (LayAllKG wi hi xs ws).1.2.2.length ≤ 1048576 := LayAll_len wi hi xs ws h
end Go.Proofs.Ytgkgklgeobbmlaa
