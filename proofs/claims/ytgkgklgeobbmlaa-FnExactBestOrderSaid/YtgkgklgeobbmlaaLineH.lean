/-
  A right way, the program's.
  Conditions: the fields are in their kinds' ranges.
-/
import Derived.Test.YtgkgklgeobbmlaaLineT
import Derived.Test.YtgkgklgeobbmlaaHasC
import Derived.Test.YtgkgklgeobbmlaaCopy
namespace Go.Proofs.Ytgkgklgeobbmlaa
open Go.RowKit
set_option linter.unusedSimpArgs false
set_option linter.unusedVariables false

set_option maxRecDepth 100000 in
set_option maxHeartbeats 8000000 in
theorem ValidWay_I (wi hi : Int) (hwh : -128 ≤ wi ∧ wi ≤ 127 ∧ -128 ≤ hi ∧ hi ≤ 127) (a : Option Addr) (c : Nat) (xs : List Pc) (oks : ∀ p ∈ xs, p.Ok) (p : Wy) (ok : p.Ok) (w0 : World) (h0 : SlA Pc.enc 5 w0 a xs) :
    Calls Try.prog 49 #[.agg #[.int .i8 wi, .int .i8 hi, .slice a xs.length c], .agg p.enc.toArray] w0 fun e w' => e = .returned (.bool (bdOk wi hi xs && wayB wi hi xs p)) ∧ Below w0.heap.size w0 w' := by
  obtain ⟨a0, a1, a2, a3, a4, a5, a6, a7, a8, a9, a10, a11⟩ := ok
  obtain ⟨W1, hW1⟩ : ∃ W, W = w0.alloc (.cells #[.int .i8 wi, .int .i8 hi, .slice a xs.length c] 32) := ⟨_, rfl⟩
  have B1 : Below w0.heap.size w0 W1 := by rw [hW1]; exact (Below.refl _ _).alloc (Nat.le_refl _) _
  have bd1 : BdA W1 w0.heap.size wi hi a xs.length c := by rw [hW1]; exact bd_box _ _ _ _ _ _ _
  obtain ⟨w, hw⟩ : ∃ W, W = W1.alloc (.cells p.enc.toArray 38) := ⟨_, rfl⟩
  have B2 : Below W1.heap.size W1 w := by rw [hw]; exact (Below.refl _ _).alloc (Nat.le_refl _) _
  have hway : WyA w W1.heap.size p := by
    rw [hw]
    exact ⟨by simp, by simp [go_sem, Wy.enc], by simp [go_sem, Wy.enc], by simp [go_sem, Wy.enc], by simp [go_sem, Wy.enc], by simp [go_sem, Wy.enc], by simp [go_sem, Wy.enc]⟩
  have hs1 : W1.heap.size = w0.heap.size + 1 := by rw [hW1]; simp
  have hb := bd1.below B2 bd1.lt
  have h := (h0.below B1).below B2
  have HB0 := hid (below_of B1 B1.size B2)
  rw [hs1] at hway
  rw [hW1] at hw
  clear B1 B2 bd1 hs1 hW1 h0
  obtain ⟨bb, hbb⟩ : ∃ bb, w0.heap.size = bb := ⟨_, rfl⟩
  have HBb := hid hbb
  rw [hbb] at hb hway
  obtain ⟨wb, hwb⟩ : ∃ wb, bb + 1 = wb := ⟨_, rfl⟩
  rw [hwb] at hway
  have HVb := hid (ValidBoard_I wi hi a c xs w hwh h oks)
  have HFz := hid (fun W (hW : Below w.heap.size w W) x y => free_I bb wi hi a c xs x y W (hb.below hW hb.lt) (h.below hW))
  have HW := hid (fun W (hW : Below w.heap.size w W) => hway.below hW)
  have HS1 := hid (fun W => side_I p.sd W)
  have HS2 := hid (fun W => side_I p.ou W)
  have ws1 : IntKind.i64.wrap p.sd = p.sd := IntWalk.i64_in _ (by omega)
  have ws2 : IntKind.i64.wrap p.ou = p.ou := IntWalk.i64_in _ (by omega)
  have HF1 := hid (fun W hW => HFz.out W hW p.fx p.fy)
  have HF2 := hid (fun W hW => HFz.out W hW p.tx p.ty)
  obtain ⟨-, g0, g1, g2⟩ := hb
  have HG := hid (show (bdOk wi hi xs && wayB wi hi xs p) = (bdOk wi hi xs && (freeG wi hi xs p.fx p.fy && freeG wi hi xs p.tx p.ty && inB p.sd 0 3 && inB p.ou 0 3 && !(decide (p.fx = p.tx ∧ p.fy = p.ty) && decide (p.sd = p.ou)))) from rfl)
  generalize (bdOk wi hi xs && wayB wi hi xs p) = R at *
  clear HFz
  generalize freeG wi hi xs p.fx p.fy = f1 at *
  generalize freeG wi hi xs p.tx p.ty = f2 at *
  generalize inB p.sd 0 3 = s1 at *
  generalize inB p.ou 0 3 = s2 at *
  generalize bdOk wi hi xs = v at *
  clear h hway
  go_enter Try.func49, Try.ntmps49
  go_upto_region 1 with fail
  rw [← hw]
  (try rw [hbb])
  (try rw [hwb])
  clear hw hbb hwb
  go_wp2_with fail
  refine HVb.out.mono ?_
  rintro e wv ⟨rfl, hbv⟩
  have HBv := hid hbv
  obtain ⟨-, y0, y1, y2, y3, y4, y5⟩ := HW.out wv hbv
  have HF1 := hid (HF1.out wv hbv)
  clear hbv g0 g1 g2
  cases v with
  | false =>
    go_wp2_with fail
    go_ret
    exact ⟨ret_bool (by rw [HG.out]; rfl), below_of HB0.out HB0.out.size HBv.out⟩
  | true =>
    go_wp2_with fail
    refine HF1.out.mono ?_
    rintro e w1 ⟨rfl, hb1⟩
    have HB1 := hid (below_of HBv.out HBv.out.size hb1)
    obtain ⟨-, x0, x1, x2, x3, x4, x5⟩ := HW.out w1 HB1.out
    have HFa := hid (HF2.out w1 HB1.out)
    clear hb1 y0 y1 y2 y3 y4 y5
    cases f1 with
    | false =>
      go_wp2_with fail
      go_ret
      exact ⟨ret_bool (by rw [HG.out]; rfl), below_of HB0.out HB0.out.size HB1.out⟩
    | true =>
      go_wp2_with fail
      refine HFa.out.mono ?_
      rintro e w2 ⟨rfl, hb2⟩
      have HB2 := hid (below_of HB1.out HB1.out.size hb2)
      obtain ⟨-, y0, y1, y2, y3, y4, y5⟩ := HW.out w2 HB2.out
      clear hb2 x0 x1 x2 x3 x4 x5
      cases f2 with
      | false =>
        go_wp2_with fail
        go_ret
        exact ⟨ret_bool (by rw [HG.out]; rfl), below_of HB0.out HB0.out.size HB2.out⟩
      | true =>
        go_wp2_with fail
        refine (HS1.out w2).mono ?_
        rintro e w3 ⟨rfl, rfl⟩
        cases s1 with
        | false =>
          go_wp2_with fail
          go_ret
          exact ⟨ret_bool (by rw [HG.out]; rfl), below_of HB0.out HB0.out.size HB2.out⟩
        | true =>
          go_wp2_with fail
          refine (HS2.out w2).mono ?_
          rintro e w4 ⟨rfl, rfl⟩
          cases s2 with
          | false =>
            go_wp2_with fail
            go_ret
            exact ⟨ret_bool (by rw [HG.out]; rfl), below_of HB0.out HB0.out.size HB2.out⟩
          | true =>
            have heq := fun W => eql_Ce p.fx p.fy p.tx p.ty W
            by_cases hc : p.fx = p.tx ∧ p.fy = p.ty
            · have hd : decide (p.fx = p.tx ∧ p.fy = p.ty) = true := decide_eq_true hc
              rw [hd] at heq
              have HD := hid hd
              clear hc hd
              by_cases hs : p.sd = p.ou
              · have hb : (p.sd != p.ou) = false := by rw [hs]; simp
                have HS := hid (show decide (p.sd = p.ou) = true from decide_eq_true hs)
                clear hs
                go_wp2_with fail
                go_ret
                exact ⟨ret_bool (by rw [HG.out, HD.out, HS.out]; rfl), below_of HB0.out HB0.out.size HB2.out⟩
              · have hb : (p.sd != p.ou) = true := by simpa using hs
                have HS := hid (show decide (p.sd = p.ou) = false from decide_eq_false hs)
                clear hs
                go_wp2_with fail
                go_ret
                exact ⟨ret_bool (by rw [HG.out, HD.out, HS.out]; rfl), below_of HB0.out HB0.out.size HB2.out⟩
            · have hd : decide (p.fx = p.tx ∧ p.fy = p.ty) = false := decide_eq_false hc
              rw [hd] at heq
              have HD := hid hd
              clear hc hd
              go_wp2_with fail
              go_ret
              exact ⟨ret_bool (by rw [HG.out, HD.out]; rfl), below_of HB0.out HB0.out.size HB2.out⟩
end Go.Proofs.Ytgkgklgeobbmlaa
