/-
  LayLine, the reference's: a right way; the whole.
  Conditions: the fields are in their kinds' ranges.
-/
import Derived.Test.YtgkgklgeobbmlaaLineX
namespace Go.Proofs.Ytgkgklgeobbmlaa
open Go.RowKit
set_option linter.unusedSimpArgs false
set_option linter.unusedVariables false

set_option maxRecDepth 100000 in
set_option maxHeartbeats 8000000 in
theorem okO_LS (bb wb wo : Nat) (wi hi : Int) (hwh : -128 ≤ wi ∧ wi ≤ 127 ∧ -128 ≤ hi ∧ hi ≤ 127) (a : Option Addr) (c : Nat) (xs : List Pc) (p : Wy) (ok : p.Ok) (w : World) (hb : BdA w bb wi hi a xs.length c) (h : SlA Pc.enc 5 w a xs) (hway : WyO w wb wo p) :
    Calls Try.prog 30 #[.pointer (some ⟨bb, 0, none⟩), .pointer (some ⟨wb, wo, none⟩)] w fun e w' => e = .returned (.bool (wayB wi hi xs p)) ∧ Below w.heap.size w w' := by
  obtain ⟨a0, a1, a2, a3, a4, a5, a6, a7, a8, a9, a10, a11⟩ := ok
  have HF1 := hid (free_S bb wi hi a c xs p.fx p.fy w hwh (by omega) hb h)
  have HF2 := hid (fun W (hW : Below w.heap.size w W) => free_S bb wi hi a c xs p.tx p.ty W hwh (by omega) (hb.below hW hb.lt) (h.below hW))
  have HW := hid (fun W (hW : Below w.heap.size w W) => hway.below hW)
  have HS1 := hid (fun W => side_S p.sd W)
  have HS2 := hid (fun W => side_S p.ou W)
  have ws1 : IntKind.i64.wrap p.sd = p.sd := IntWalk.i64_in _ (by omega)
  have ws2 : IntKind.i64.wrap p.ou = p.ou := IntWalk.i64_in _ (by omega)
  have HG := hid (show wayB wi hi xs p = (freeG wi hi xs p.fx p.fy && freeG wi hi xs p.tx p.ty && inB p.sd 0 3 && inB p.ou 0 3 && !(decide (p.fx = p.tx ∧ p.fy = p.ty) && decide (p.sd = p.ou))) from rfl)
  generalize wayB wi hi xs p = R at *
  generalize freeG wi hi xs p.fx p.fy = f1 at *
  generalize freeG wi hi xs p.tx p.ty = f2 at *
  generalize inB p.sd 0 3 = s1 at *
  generalize inB p.ou 0 3 = s2 at *
  obtain ⟨-, y0, y1, y2, y3, y4, y5, y6⟩ := hway
  clear hb h
  go_enter Try.func30, Try.ntmps30
  go_wp2_with fail
  refine HF1.out.mono ?_
  rintro e w1 ⟨rfl, hb1⟩
  obtain ⟨-, x0, x1, x2, x3, x4, x5, x6⟩ := HW.out w1 hb1
  have HB1 := hid hb1
  have HFa := hid (HF2.out w1 hb1)
  clear hb1 y0 y1 y2 y3 y4 y5 y6
  cases f1 with
  | false =>
    go_wp2_with fail
    go_ret
    exact ⟨ret_bool (by rw [HG.out]; rfl), HB1.out⟩
  | true =>
    go_wp2_with fail
    refine HFa.out.mono ?_
    rintro e w2 ⟨rfl, hb2⟩
    have HB2 := hid (below_of HB1.out HB1.out.size hb2)
    obtain ⟨-, y0, y1, y2, y3, y4, y5, y6⟩ := HW.out w2 HB2.out
    clear hb2 x0 x1 x2 x3 x4 x5 x6
    cases f2 with
    | false =>
      go_wp2_with fail
      go_ret
      exact ⟨ret_bool (by rw [HG.out]; rfl), HB2.out⟩
    | true =>
      go_wp2_with fail
      refine (HS1.out w2).mono ?_
      rintro e w3 ⟨rfl, rfl⟩
      cases s1 with
      | false =>
        go_wp2_with fail
        go_ret
        exact ⟨ret_bool (by rw [HG.out]; rfl), HB2.out⟩
      | true =>
        go_wp2_with fail
        refine (HS2.out w2).mono ?_
        rintro e w4 ⟨rfl, rfl⟩
        cases s2 with
        | false =>
          go_wp2_with fail
          go_ret
          exact ⟨ret_bool (by rw [HG.out]; rfl), HB2.out⟩
        | true =>
          have heq := fun W => eql_Ce p.fx p.fy p.tx p.ty W
          by_cases hc : p.fx = p.tx ∧ p.fy = p.ty
          · have hd : decide (p.fx = p.tx ∧ p.fy = p.ty) = true := decide_eq_true hc
            rw [hd] at heq
            have HD := hid hd
            clear hc hd
            by_cases hs : p.sd = p.ou
            · have hb : (p.sd != p.ou) = false := by rw [hs]; simp
              have HS := hid (show decide (p.sd = p.ou) = true from decide_eq_true hs)
              clear hs
              go_wp2_with fail
              go_region
              go_wp2_with fail
              go_ret
              exact ⟨ret_bool (by rw [HG.out, HD.out, HS.out]; rfl), HB2.out.drew⟩
            · have hb : (p.sd != p.ou) = true := by simpa using hs
              have HS := hid (show decide (p.sd = p.ou) = false from decide_eq_false hs)
              clear hs
              go_wp2_with fail
              go_region
              go_wp2_with fail
              go_ret
              exact ⟨ret_bool (by rw [HG.out, HD.out, HS.out]; rfl), HB2.out.drew⟩
          · have hd : decide (p.fx = p.tx ∧ p.fy = p.ty) = false := decide_eq_false hc
            rw [hd] at heq
            have HD := hid hd
            clear hc hd
            go_wp2_with fail
            go_region
            go_wp2_with fail
            go_ret
            exact ⟨ret_bool (by rw [HG.out, HD.out]; rfl), HB2.out.drew⟩
theorem ok_LS (bb wb : Nat) (wi hi : Int) (hwh : -128 ≤ wi ∧ wi ≤ 127 ∧ -128 ≤ hi ∧ hi ≤ 127) (a : Option Addr) (c : Nat) (xs : List Pc) (p : Wy) (ok : p.Ok) (w : World) (hb : BdA w bb wi hi a xs.length c) (h : SlA Pc.enc 5 w a xs) (hway : WyA w wb p) :
    Calls Try.prog 30 #[.pointer (some ⟨bb, 0, none⟩), .pointer (some ⟨wb, 0, none⟩)] w fun e w' => e = .returned (.bool (wayB wi hi xs p)) ∧ Below w.heap.size w w' :=
  okO_LS bb wb 0 wi hi hwh a c xs p ok w hb h hway.o
theorem bd_in {wi hi : Int} {xs : List Pc} (h : bdOk wi hi xs = true) : (1 ≤ wi ∧ wi ≤ 24) ∧ (1 ≤ hi ∧ hi ≤ 24) ∧ xs.length ≤ 200 := by
  unfold bdOk at h
  simp only [Bool.and_eq_true, inB_it, decide_eq_true_eq] at h
  exact ⟨h.1, h.2.1, h.2.2.1⟩
set_option maxRecDepth 100000 in
set_option maxHeartbeats 8000000 in
theorem LayLine_S (w : World) (wi hi : Int) (wl : -128 ≤ wi) (wu : wi ≤ 127) (hl : -128 ≤ hi) (hu : hi ≤ 127) (a : Option Addr) (c : Nat) (xs : List Pc) (h : SlA Pc.enc 5 w a xs) (hnc : a = none → c = 0) (ok : ∀ p ∈ xs, p.Ok) (hs : xs.length ≤ 1048576) (p : Wy) (okp : p.Ok) :
    Calls Try.prog 8 #[.agg #[.int .i8 wi, .int .i8 hi, .slice a xs.length c], .agg p.enc.toArray] w (ResK w (LayLineG wi hi xs p)) := by
  obtain ⟨W1, hW1⟩ : ∃ W, W = w.alloc (.cells #[.int .i8 wi, .int .i8 hi, .slice a xs.length c] 32) := ⟨_, rfl⟩
  have B1 : Below w.heap.size w W1 := by rw [hW1]; exact (Below.refl _ _).alloc (Nat.le_refl _) _
  have bd1 : BdA W1 w.heap.size wi hi a xs.length c := by rw [hW1]; exact bd_box _ _ _ _ _ _ _
  obtain ⟨W2, hW2⟩ : ∃ W, W = W1.alloc (.cells p.enc.toArray 38) := ⟨_, rfl⟩
  have B2 : Below W1.heap.size W1 W2 := by rw [hW2]; exact (Below.refl _ _).alloc (Nat.le_refl _) _
  have wy2 : WyA W2 W1.heap.size p := by
    rw [hW2]
    exact ⟨by simp, by simp [go_sem, Wy.enc], by simp [go_sem, Wy.enc], by simp [go_sem, Wy.enc], by simp [go_sem, Wy.enc], by simp [go_sem, Wy.enc], by simp [go_sem, Wy.enc]⟩
  obtain ⟨W3, hW3⟩ : ∃ W, W = W2.alloc (.cells #[.int .i8 0, .int .i8 0, .slice none 0 0] 32) := ⟨_, rfl⟩
  have B3 : Below W2.heap.size W2 W3 := by rw [hW3]; exact (Below.refl _ _).alloc (Nat.le_refl _) _
  have HR := hid (show BoQ W3 W2.heap.size 0 0 none 0 0 by rw [hW3]; exact boq_new _ _ _ _ _ _ _)
  have hs1 : W1.heap.size = w.heap.size + 1 := by rw [hW1]; simp
  have hs2 : W2.heap.size = w.heap.size + 1 + 1 := by rw [hW2]; simp [hs1]
  have hb12 := below_of B1 B1.size B2
  have hb13 := below_of hb12 hb12.size B3
  have HB3 := hid hb13
  have hs3 : W2.heap.size < W3.heap.size := by rw [hW3]; simp
  have HK := hid (fun W (hW : Below W3.heap.size W3 W) => (⟨(((bd1.below B2 bd1.lt).below B3 (Nat.lt_of_lt_of_le bd1.lt B2.size)).below hW (Nat.lt_of_lt_of_le bd1.lt (by omega))), (h.below hb13).below hW, (wy2.below B3).below hW⟩ : BdA W w.heap.size wi hi a xs.length c ∧ SlA Pc.enc 5 W a xs ∧ WyA W W1.heap.size p))
  rw [hs2] at HR
  rw [hs1] at HK
  rw [hW2, hW1] at hW3
  have HZ := hid (show w.heap.size + 1 + 1 < W3.heap.size by omega)
  clear B1 B2 B3 bd1 wy2 hb12 hb13 hs1 hs2 hs3 hW1 hW2
  have HG := hid (show LayLineG wi hi xs p = if bdOk wi hi xs = true ∧ wayB wi hi xs p = true then lineG wi hi xs p else ((0, 0, []), 1) from rfl)
  have HOk := hid (fun W (hb : BdA W w.heap.size wi hi a xs.length c) (h : SlA Pc.enc 5 W a xs) => ok_S w.heap.size wi hi a c xs W ⟨wl, wu, hl, hu⟩ hb h ok)
  have HWy := hid (fun W (hb : BdA W w.heap.size wi hi a xs.length c) (h : SlA Pc.enc 5 W a xs) (hy : WyA W (w.heap.size + 1) p) => ok_LS w.heap.size (w.heap.size + 1) wi hi ⟨wl, wu, hl, hu⟩ a c xs p okp W hb h hy)
  generalize LayLineG wi hi xs p = G at *
  obtain ⟨rb, hrb⟩ : ∃ rb, w.heap.size + 1 + 1 = rb := ⟨_, rfl⟩
  have HRb := hid hrb
  rw [hrb] at HR HZ
  obtain ⟨k1, k2, k3⟩ := HK.out W3 (Below.refl _ _)
  have HO1 := hid (HOk.out W3 k1 k2)
  have HBd := hid (fun (hv : bdOk wi hi xs = true) => bd_in hv)
  have HLay := hid (fun W (hb : BdA W w.heap.size wi hi a xs.length c) (h : SlA Pc.enc 5 W a xs) (hy : WyA W (w.heap.size + 1) p) (hv : bdOk wi hi xs = true) (hw : wayB wi hi xs p = true) => (show Calls Try.prog 31 #[.pointer (some ⟨w.heap.size, 0, none⟩), .pointer (some ⟨w.heap.size + 1, 0, none⟩)] W (ResK W (lineG wi hi xs p)) from by
    obtain ⟨h1, h2, _⟩ := bd_in hv
    obtain ⟨m, rfl⟩ : ∃ m : Nat, wi = (m : Int) := ⟨wi.toNat, by omega⟩
    obtain ⟨n, rfl⟩ : ∃ n : Nat, hi = (n : Int) := ⟨hi.toNat, by omega⟩
    exact lay_LS w.heap.size (w.heap.size + 1) m n (by omega) (by omega) a c xs p W hs hb h hnc hy hw))
  generalize lineG wi hi xs p = GL at *
  clear k1 k2 k3 h
  go_enter Try.func8, Try.ntmps8
  go_upto_region 1 with fail
  rw [← hW3]
  clear hW3
  (try rw [hrb])
  clear hrb
  obtain ⟨v, hv⟩ : ∃ v, bdOk wi hi xs = v := ⟨_, rfl⟩
  obtain ⟨u, hu2⟩ : ∃ u, wayB wi hi xs p = u := ⟨_, rfl⟩
  rw [hv] at HO1
  rw [hv, hu2] at HG
  have HV := hid hv
  have HU := hid hu2
  rw [hu2] at HWy
  clear hv hu2
  go_wp2_with fail
  refine HO1.out.mono ?_
  rintro e w4 ⟨rfl, hb4⟩
  have HR4 := hid (HR.out.below hb4)
  have HB4 := hid (below_of HB3.out HB3.out.size hb4)
  have HD4 := hid hb4
  clear hb4
  cases v with
  | false =>
    have HGG := hid (show G = ((0, 0, []), 1) by rw [HG.out, if_neg (by simp)])
    obtain ⟨-, r0, r1, r2, rz⟩ := HR4.out
    have z0 := rz 0
    have z1 := rz 1
    have z2 := rz 2
    clear rz
    go_wp2_with fail
    refine bodyPost_ret (v := .tuple #[.agg #[.int .i8 0, .int .i8 0, .slice none 0 0], .int .i64 1]) (by simp [results, Try.results8, go_sem, r0, r1, r2]) rfl ?_
    rw [HGG.out]
    refine ⟨none, 0, rfl, ?_, World.ownsRow_nil _ _ _ _⟩
    exact ((HB4.out.setCell (p := ⟨rb, 0, none⟩) (by show w.heap.size ≤ rb; have := HRb.out; omega) _).setCell (p := ⟨rb, 1, none⟩) (by show w.heap.size ≤ rb; have := HRb.out; omega) _).setCell (p := ⟨rb, 2, none⟩) (by show w.heap.size ≤ rb; have := HRb.out; omega) _
  | true =>
    obtain ⟨k1, k2, k3⟩ := HK.out w4 HD4.out
    have HO2 := hid (HWy.out w4 k1 k2 k3)
    clear k1 k2 k3
    go_wp2_with fail
    refine HO2.out.mono ?_
    rintro e w5 ⟨rfl, hb5⟩
    have HR5 := hid (HR4.out.below hb5)
    have HB5 := hid (below_of HB4.out HB4.out.size hb5)
    have HD5 := hid (below_of HD4.out HD4.out.size hb5)
    clear hb5
    cases u with
    | false =>
      have HGG := hid (show G = ((0, 0, []), 1) by rw [HG.out, if_neg (by simp)])
      obtain ⟨-, r0, r1, r2, rz⟩ := HR5.out
      have z0 := rz 0
      have z1 := rz 1
      have z2 := rz 2
      clear rz
      go_wp2_with fail
      refine bodyPost_ret (v := .tuple #[.agg #[.int .i8 0, .int .i8 0, .slice none 0 0], .int .i64 1]) (by simp [results, Try.results8, go_sem, r0, r1, r2]) rfl ?_
      rw [HGG.out]
      refine ⟨none, 0, rfl, ?_, World.ownsRow_nil _ _ _ _⟩
      exact ((HB5.out.setCell (p := ⟨rb, 0, none⟩) (by show w.heap.size ≤ rb; have := HRb.out; omega) _).setCell (p := ⟨rb, 1, none⟩) (by show w.heap.size ≤ rb; have := HRb.out; omega) _).setCell (p := ⟨rb, 2, none⟩) (by show w.heap.size ≤ rb; have := HRb.out; omega) _
    | true =>
      have HGG := hid (show G = GL by rw [HG.out, if_pos (by simp)])
      obtain ⟨k1, k2, k3⟩ := HK.out w5 HD5.out
      have HL5 := hid (HLay.out w5 k1 k2 k3 HV.out HU.out)
      rw [← HGG.out] at HL5
      clear k1 k2 k3
      go_wp2_with fail
      refine HL5.out.mono ?_
      rintro e w6 ⟨A9, c9, rfl, hb6, own6⟩
      obtain ⟨-, r0, r1, r2, rz⟩ := HR5.out.below hb6
      have z0 := rz 0
      have z1 := rz 1
      have z2 := rz 2
      have hrl := HR5.out.lt
      have HB6 := hid (below_of HB5.out HB5.out.size hb6)
      have HO6 := hid own6
      have hz5 := HB5.out.size
      clear rz hb6 own6
      go_wp2_with fail
      refine bodyPost_ret (v := .tuple #[.agg #[.int .i8 G.1.1, .int .i8 G.1.2.1, .slice A9 G.1.2.2.length c9], .int .i64 G.2]) (by simp [results, Try.results8, go_sem, r0, r1, r2]) rfl ⟨A9, c9, rfl, ?_, ?_⟩
      · exact ((HB6.out.setCell (p := ⟨rb, 0, none⟩) (by show w.heap.size ≤ rb; have := HRb.out; omega) _).setCell (p := ⟨rb, 1, none⟩) (by show w.heap.size ≤ rb; have := HRb.out; omega) _).setCell (p := ⟨rb, 2, none⟩) (by show w.heap.size ≤ rb; have := HRb.out; omega) _
      · have hnb : ∀ k, (Value.slice A9 G.1.2.2.length c9).ownBlock = some k → k ≠ rb := fun k hk => by have := (HO6.out.lt k hk).1; omega
        exact own_setE (own_setE (own_setE (own_low HO6.out hz5) hnb _) hnb _) hnb _
end Go.Proofs.Ytgkgklgeobbmlaa
