/-
  The shortest line, the reference's.
  Conditions: the board is a right one, the way leads from a free cell to a free cell.
-/
import Derived.Test.YtgkgklgeobbmlaaLineS
import Derived.Test.YtgkgklgeobbmlaaHasC
namespace Go.Proofs.Ytgkgklgeobbmlaa
open Go.RowKit
set_option linter.unusedSimpArgs false
set_option linter.unusedVariables false

theorem backL_zero (D : DstT) (d : Nat) (e : Ce) : (backL D d e)[0]? = some e := by cases d <;> rfl
theorem backL_next (D : DstT) : ∀ (d : Nat) (e : Ce) (i : Nat) (p : Ce), (backL D d e)[i]? = some p → i < d → (backL D d e)[i + 1]? = some (backC D p ((d - (i + 1) : Nat) : Int))
  | 0, e, i, p, h, hi => absurd hi (by omega)
  | d + 1, e, i, p, h, hi => by
    have e0 : backL D (d + 1) e = e :: backL D d (backC D e (d : Int)) := rfl
    rw [e0] at h ⊢
    cases i with
    | zero =>
      rw [List.getElem?_cons_zero] at h
      injection h with h
      subst h
      rw [List.getElem?_cons_succ, backL_zero]
      rfl
    | succ i =>
      rw [List.getElem?_cons_succ] at h ⊢
      rw [backL_next D d _ i p h (by omega), Nat.add_sub_add_right]
/-- The cells that are known when some of the way back is done. -/
def tailW (D : DstT) (d : Nat) (e : Ce) (i : Nat) : List Ce := ((backL D d e).take (i + 1)).reverse
theorem tailW_zero (D : DstT) (d : Nat) (e : Ce) : tailW D d e 0 = [e] := by
  unfold tailW
  rw [List.take_add_one, backL_zero]
  rfl
theorem tailW_next {D : DstT} {d : Nat} {e : Ce} {i : Nat} {p : Ce} (hp : (backL D d e)[i]? = some p) (hi : i < d) : tailW D d e (i + 1) = backC D p ((d - (i + 1) : Nat) : Int) :: tailW D d e i := by
  unfold tailW
  rw [List.take_add_one, backL_next D d e i p hp hi, List.reverse_append]
  rfl
theorem tailW_all (D : DstT) (d : Nat) (e : Ce) : tailW D d e d = (backL D d e).reverse := by
  unfold tailW
  rw [List.take_of_length_le (by rw [backL_len]; exact Nat.le_refl _)]
theorem tailW_head {D : DstT} {d : Nat} {e : Ce} {i : Nat} {p : Ce} (hp : (backL D d e)[i]? = some p) : ∃ l, tailW D d e i = p :: l ∧ l.length = i := by
  unfold tailW
  rw [List.take_add_one, hp, List.reverse_append]
  have := (List.getElem?_eq_some_iff.1 hp).1
  exact ⟨((backL D d e).take i).reverse, rfl, by rw [List.length_reverse, List.length_take]; omega⟩
theorem tailW_len {D : DstT} {d : Nat} {e : Ce} {i : Nat} (hi : i ≤ d) : (tailW D d e i).length = i + 1 := by
  unfold tailW
  rw [List.length_reverse, List.length_take, backL_len]
  omega
/-- A way's box. -/
structure WyA (w : World) (b : Nat) (p : Wy) : Prop where
  lt : b < w.heap.size
  c0 : w.cell? ⟨b, 0, none⟩ = some (.int .i8 p.fx)
  c1 : w.cell? ⟨b, 1, none⟩ = some (.int .i8 p.fy)
  c2 : w.cell? ⟨b, 2, none⟩ = some (.int .i8 p.sd)
  c3 : w.cell? ⟨b, 3, none⟩ = some (.int .i8 p.tx)
  c4 : w.cell? ⟨b, 4, none⟩ = some (.int .i8 p.ty)
  c5 : w.cell? ⟨b, 5, none⟩ = some (.int .i8 p.ou)
theorem WyA.below {w w1 : World} {b : Nat} {p : Wy} (h : WyA w b p) (hb : Below w.heap.size w w1) : WyA w1 b p :=
  ⟨Nat.lt_of_lt_of_le h.lt hb.size, cell_on hb h.c0, cell_on hb h.c1, cell_on hb h.c2, cell_on hb h.c3, cell_on hb h.c4, cell_on hb h.c5⟩
/-- .. a way anywhere in a block. -/
structure WyO (w : World) (b o : Nat) (p : Wy) : Prop where
  lt : b < w.heap.size
  c0 : w.cell? ⟨b, o, none⟩ = some (.int .i8 p.fx)
  c1 : w.cell? ⟨b, o + 1, none⟩ = some (.int .i8 p.fy)
  c2 : w.cell? ⟨b, o + 2, none⟩ = some (.int .i8 p.sd)
  c3 : w.cell? ⟨b, o + 3, none⟩ = some (.int .i8 p.tx)
  c4 : w.cell? ⟨b, o + 4, none⟩ = some (.int .i8 p.ty)
  c5 : w.cell? ⟨b, o + 5, none⟩ = some (.int .i8 p.ou)
  c6 : w.cell? ⟨b, o + 3 + 1, none⟩ = some (.int .i8 p.ty)
theorem WyO.below {w w1 : World} {b o : Nat} {p : Wy} (h : WyO w b o p) (hb : Below w.heap.size w w1) : WyO w1 b o p :=
  ⟨Nat.lt_of_lt_of_le h.lt hb.size, cell_on hb h.c0, cell_on hb h.c1, cell_on hb h.c2, cell_on hb h.c3, cell_on hb h.c4, cell_on hb h.c5, cell_on hb h.c6⟩
theorem WyA.o {w : World} {b : Nat} {p : Wy} (h : WyA w b p) : WyO w b 0 p := ⟨h.lt, h.c0, h.c1, h.c2, h.c3, h.c4, h.c5, h.c4⟩
set_option maxRecDepth 100000 in
set_option maxHeartbeats 16000000 in
theorem shortestO_S (bb wb wo : Nat) (wi hi : Nat) (hw : 1 ≤ wi ∧ wi ≤ 24) (hh : 1 ≤ hi ∧ hi ≤ 24) (a : Option Addr) (c : Nat) (xs : List Pc) (p : Wy) (w : World) (hb : BdA w bb wi hi a xs.length c) (h : SlA Pc.enc 5 w a xs) (hway : WyO w wb wo p) (hf : freeG wi hi xs p.fx p.fy = true) (ht : freeG wi hi xs p.tx p.ty = true) (hsd : 0 ≤ p.sd ∧ p.sd ≤ 3) (hou : 0 ≤ p.ou ∧ p.ou ≤ 3) :
    Calls Try.prog 53 #[.pointer (some ⟨bb, 0, none⟩), .pointer (some ⟨wb, wo, none⟩)] w (ResS Ce.enc 2 36 w (shortG wi hi xs p).1 (shortG wi hi xs p).2) := by
  have hif := free_in hf
  have hit := free_in ht
  have HFar := hid (far_S bb wi hi hw hh a c xs p.fx p.fy w hb h hf)
  have HFr := hid (fun W (hW : Below w.heap.size w W) x y (hx : -1 ≤ x ∧ x ≤ 24) (hy : -1 ≤ y ∧ y ≤ 24) => free_S bb wi hi a c xs x y W (by omega) (by omega) (hb.below hW hb.lt) (h.below hW))
  have HIx := hid (fun W (hW : Below w.heap.size w W) x y (hx : 0 ≤ x ∧ x ≤ 23) (hy : 0 ≤ y ∧ y ≤ 23) => index_S bb wi hw.2 x y W hx hy (hb.below hW hb.lt).c0)
  have HFin := hid (fun x y (h : freeG wi hi xs x y = true) => free_in h)
  have HWy := hid (fun W (hW : Below w.heap.size w W) => hway.below hW)
  have hOk := far_ok hf
  have HOk : Hid (BfsOk (freeG wi hi xs) ⟨p.fx, p.fy⟩ ((bfsQ (freeG wi hi xs) ⟨p.fx, p.fy⟩ ((wi : Int).toNat * (hi : Int).toNat)).1, farD wi hi xs p.fx p.fy)) := hid hOk
  have HG := hid (show shortG wi hi xs p = if farD wi hi xs p.fx p.fy p.tx p.ty < 0 then ([], 6) else if endsB p (pathW wi hi xs p) = true then ([], 4) else (pathW wi hi xs p, 0) from rfl)
  have HPw := hid (show pathW wi hi xs p = (backL (farD wi hi xs p.fx p.fy) (farD wi hi xs p.fx p.fy p.tx p.ty).toNat ⟨p.tx, p.ty⟩).reverse from rfl)
  have hNw : wi * hi ≤ 24 * 24 := Nat.mul_le_mul hw.2 hh.2
  have hlt := hOk.lt p.tx p.ty
  have hql := nodup_board (wi := wi) (hi := hi) hOk.nd (fun e he => free_in (hOk.fr e he))
  have hd576 : farD wi hi xs p.fx p.fy p.tx p.ty < 576 := by
    show (bfsQ (freeG wi hi xs) ⟨p.fx, p.fy⟩ ((wi : Int).toNat * (hi : Int).toNat)).2 p.tx p.ty < 576
    omega
  generalize shortG wi hi xs p = R at *
  generalize pathW wi hi xs p = PW at *
  generalize farD wi hi xs p.fx p.fy = D at *
  generalize freeG wi hi xs = F at *
  have hwy := hway
  obtain ⟨y9, y0, y1, y2, y3, y4, y5, y6⟩ := hwy
  have hpl : plcN wi p.tx p.ty < wi * hi := plc_lt hit.1 hit.2
  obtain ⟨N, hN⟩ : ∃ N, wi * hi = N := ⟨_, rfl⟩
  have HN := hid hN
  rw [hN] at HFar hpl
  clear hb h hf ht hN hlt hql hNw hOk hway
  go_enter Try.func53, Try.ntmps53
  go_wp2_with fail
  refine HFar.out.mono ?_
  rintro e w1 ⟨g, rfl, hb1, own⟩
  have HCell := hid (fun W (hW : Below w1.heap.size w1 W) x y (hx : 0 ≤ x ∧ x < (wi : Int)) (hy : 0 ≤ y ∧ y < (hi : Int)) => (show W.cell? ⟨g, plcN wi x y, none⟩ = some (.int .i64 (D x y)) from
    cell_on hW ((own.cellAt _ (by rw [Nat.mul_one, ← HN.out]; exact plc_lt hx hy)).trans (by rw [en1_flat, List.getElem?_map, distL_at _ hx hy]; rfl))))
  have HB1 := hid hb1
  obtain ⟨pc, hpc⟩ : ∃ pc, plcN wi p.tx p.ty = pc := ⟨_, rfl⟩
  have HIx1 := hid (HIx.out w1 hb1 p.tx p.ty (by omega) (by omega))
  rw [hpc] at HIx1 hpl
  obtain ⟨-, z0, z1, z2, z3, z4, z5, z6⟩ := HWy.out w1 hb1
  have hpi : (pc : Int) < (N : Int) := by omega
  have HPc := hid hpc
  clear own hb1 y0 y1 y2 y3 y4 y5 y6 y9 hpc
  go_wp2_with fail
  refine HIx1.out.mono ?_
  rintro e2 w2 ⟨rfl, hb2⟩
  have f0 := HCell.out w2 hb2 p.tx p.ty hit.1 hit.2
  rw [HPc.out] at f0
  have HB2 := hid hb2
  obtain ⟨d, hd⟩ : ∃ d, D p.tx p.ty = d := ⟨_, rfl⟩
  rw [hd] at f0 hd576 HG HPw
  have HDd := hid hd
  obtain ⟨-, y0, y1, y2, y3, y4, y5, y6⟩ := HWy.out w2 (below_of HB1.out HB1.out.size hb2)
  clear hb2 z0 z1 z2 z3 z4 z5 z6 hd
  by_cases hd0 : d < 0
  · have hdd : decide (d < 0) = true := by rw [decide_eq_true_iff]; exact hd0
    have HR := hid (show R = ([], 6) by rw [HG.out, if_pos hd0])
    clear hd0
    go_wp2_with fail
    refine bodyPost_ret (v := .tuple #[.slice (some ⟨w2.heap.size, 0, none⟩) 0 0, .int .i64 6]) (by simp [results, Try.results53, go_sem]) rfl ?_
    rw [HR.out]
    exact ResS.empty (below_of HB1.out HB1.out.size HB2.out)
  · have hdd : decide (d < 0) = false := by rw [decide_eq_false_iff_not]; exact hd0
    obtain ⟨dn, hdn⟩ : ∃ dn : Nat, d = (dn : Int) := ⟨d.toNat, by omega⟩
    subst hdn
    have HB20 := hid (below_of HB1.out HB1.out.size HB2.out)
    have HT0 := hid (show (backL D dn ⟨p.tx, p.ty⟩)[0]? = some ⟨p.tx, p.ty⟩ from backL_zero _ _ _)
    have HBk := hid (fun i (hi' : i ≤ dn) => backL_at HOk.out dn ⟨p.tx, p.ty⟩ HDd.out i hi')
    have HRR := hid (show R = if endsB p (backL D dn ⟨p.tx, p.ty⟩).reverse = true then ([], 4) else ((backL D dn ⟨p.tx, p.ty⟩).reverse, 0) by
      rw [HG.out, if_neg hd0, HPw.out, Int.toNat_natCast])
    clear hd0
    go_wp2_with fail
    clear y0 y1 y2 y3 y4 y5 y6 f0 hdd
    have hlit := World.ownsRow_lit w2 #[.int .i8 p.tx, .int .i8 p.ty] 1 (Nat.le_refl w2.heap.size) (by simp [maxLen]) (e := 36) (size := 2) (by simp)
    have HLit := hid hlit
    have hbz : w1.heap.size ≤ w2.heap.size := HB2.out.size
    clear hlit
    go_loopw [7, 8] (fun lv ov wr => ∃ (i : Nat) (A : Option Addr) (cc : Nat), i ≤ dn ∧ lv = .int .i64 ((dn : Int) - i) ∧ ov = .slice A (i + 1) cc ∧ wr.ownsRow w1.heap.size 36 2 (.slice A (i + 1) cc) (i + 1) ((tailW D dn ⟨p.tx, p.ty⟩ i).flatMap Ce.enc) ∧ Below w1.heap.size w1 wr) (fun lv _ _ => (intOf lv).toNat)
    case atStart => exact ⟨0, _, 1, Nat.zero_le _, by simp, rfl, by rw [tailW_zero]; exact own_low (by simpa [Ce.enc] using HLit.out) hbz, below_of HB2.out HB2.out.size ((Below.refl _ _).alloc (Nat.le_refl _) _)⟩
    case round =>
      obtain ⟨i, A, cc, hi', rfl, rfl, own, hbl⟩ := hrel
      have HOw := hid own
      have HBl := hid hbl
      obtain ⟨q, hq, hqv, -⟩ := HBk.out i hi'
      by_cases hlt : i < dn
      · have hd1 : decide ((0 : Int) < (dn : Int) - (i : Int)) = true := by rw [decide_eq_true_iff]; omega
        have hdp : (0 : Int) < (dn : Int) - (i : Int) := by omega
        have wl : IntKind.i64.wrap ((dn : Int) - (i : Int) - 1) = (dn : Int) - (i : Int) - 1 := IntWalk.i64_in _ (by omega)
        obtain ⟨t, htt⟩ : ∃ t : Nat, dn - (i + 1) = t := ⟨_, rfl⟩
        have hti : (dn : Int) - (i : Int) - 1 = (t : Int) := by omega
        have hqt : D q.x q.y = (t : Int) + 1 := by rw [hqv]; omega
        obtain ⟨sb, hsb4, hbs, hbc, hbv⟩ := backC_step HOk.out (e := q) (d := t) hqt
        obtain ⟨-, hsv, hsn⟩ := backS_at hbs
        have hqF : F q.x q.y = true := HOk.out.fr ⟨q.x, q.y⟩ ((HOk.out.dom q.x q.y).1 (by show 0 ≤ D q.x q.y; omega))
        have hqin := HFin.out q.x q.y hqF
        have hTn := tailW_next hq hlt
        rw [htt, show backC D q (t : Int) = ⟨nx q.x sb, ny q.y sb⟩ from hbc] at hTn
        obtain ⟨l, hTl, hll⟩ := tailW_head hq
        have hTlen := tailW_len (D := D) (e := ⟨p.tx, p.ty⟩) hi'
        have HTN := hid hTn
        have HTL := hid hTlen
        have HSN := hid hsn
        have HSV := hid hsv
        obtain ⟨ob, hob⟩ : ∃ ob, A = some ⟨ob, 0, none⟩ := by
          obtain ⟨ob, cap', hv', _, _⟩ := own.form (by omega)
          injection hv' with hv1
          exact ⟨ob, hv1⟩
        subst hob
        have HQ0 := hid (fun (W : World) (hW : Below wr.heap.size wr W) => cell_on hW (show wr.cell? ⟨ob, 0, none⟩ = some (.int .i8 q.x) from (own.cellAt 0 (by omega)).trans (by rw [hTl]; rfl)))
        have HQ1 := hid (fun (W : World) (hW : Below wr.heap.size wr W) => cell_on hW (show wr.cell? ⟨ob, 1, none⟩ = some (.int .i8 q.y) from (own.cellAt 1 (by omega)).trans (by rw [hTl]; rfl)))
        generalize tailW D dn ⟨p.tx, p.ty⟩ i = T at *
        clear own hbl hq hqv hbs hbc hbv hsv hsn hTn hTl hll hqt htt hTlen
        obtain ⟨V, hV⟩ : ∃ V, V = wr := ⟨_, rfl⟩
        subst hV
        go_wp2_with fail
        clear hd1
        go_loopw [8, 9] (fun ov sv wr => ∃ s : Nat, s ≤ sb ∧ sv = .int .i64 s ∧ ov = .slice (some ⟨ob, 0, none⟩) (i + 1) cc ∧ Below V.heap.size V wr) (fun _ sv _ => 4 - (intOf sv).toNat)
        case atStart => exact ⟨0, Nat.zero_le _, rfl, rfl, Below.refl _ _⟩
        case round =>
          obtain ⟨s, hs, rfl, rfl, hbs⟩ := hrel
          have hsi : (s : Int) < 4 := by omega
          have hd2 : decide ((s : Int) < 4) = true := by rw [decide_eq_true_iff]; omega
          have ws : IntKind.i64.wrap ((s : Int) + 1) = (s : Int) + 1 := IntWalk.i64_in _ (by omega)
          have q0 := HQ0.out wr hbs
          have q1 := HQ1.out wr hbs
          have HBs := hid hbs
          have HNx := hid (next_S q.x q.y s wr (by omega) (by omega))
          have hX : -1 ≤ nx q.x s ∧ nx q.x s ≤ 24 := by unfold nx; split <;> (try split) <;> omega
          have hY : -1 ≤ ny q.y s ∧ ny q.y s ≤ 24 := by unfold ny; split <;> (try split) <;> omega
          have HSs := hid (show (s = sb → D (nx q.x s) (ny q.y s) = (t : Int) ∧ (⟨nx q.x sb, ny q.y sb⟩ : Ce) = ⟨nx q.x s, ny q.y s⟩) ∧ (s < sb → D (nx q.x s) (ny q.y s) ≠ (t : Int)) from ⟨fun h => by subst h; exact ⟨HSV.out, rfl⟩, fun h => HSN.out s h⟩)
          generalize nx q.x s = X at *
          generalize ny q.y s = Y at *
          clear hbs
          go_wp2_with fail
          refine HNx.out.mono ?_
          rintro e1 v1 ⟨rfl, hb1⟩
          obtain ⟨V1, hV1⟩ : ∃ V, V = v1.alloc (Obj.cells #[.int .i8 X, .int .i8 Y] 36) := ⟨_, rfl⟩
          have hbV : Below v1.heap.size v1 V1 := by rw [hV1]; exact (Below.refl _ _).alloc (Nat.le_refl _) _
          have HBs := hid (below_of (below_of HBs.out HBs.out.size hb1) (below_of HBs.out HBs.out.size hb1).size hbV)
          have HT0 := hid (show V1.cell? ⟨v1.heap.size, 0, none⟩ = some (.int .i8 X) by rw [hV1]; simp)
          have HT1 := hid (show V1.cell? ⟨v1.heap.size, 1, none⟩ = some (.int .i8 Y) by rw [hV1]; simp)
          have HBw := hid (below_of HB1.out HB1.out.size (below_of HBl.out HBl.out.size HBs.out))
          have HCl := hid (HFr.out V1 HBw.out X Y hX hY)
          obtain ⟨tb, htb⟩ : ∃ tb, v1.heap.size = tb := ⟨_, rfl⟩
          rw [htb] at HT0 HT1
          clear hbV hb1 q0 q1
          go_wp2_with fail
          rw [← hV1]
          clear hV1
          (try rw [htb])
          clear htb
          refine HCl.out.mono ?_
          rintro e2 v2 ⟨rfl, hb2⟩
          have t0 := cell_on hb2 HT0.out
          have t1 := cell_on hb2 HT1.out
          have HBs := hid (below_of HBs.out HBs.out.size hb2)
          have HBw := hid (below_of HBw.out HBw.out.size hb2)
          cases hFX : F X Y with
          | false =>
            have hne : s < sb := by
              rcases Nat.lt_or_ge s sb with h | h
              · exact h
              · have h1 := (HSs.out.1 (by omega)).1
                have := HOk.out.fr ⟨X, Y⟩ ((HOk.out.dom X Y).1 (by show 0 ≤ D X Y; omega))
                rw [hFX] at this
                cases this
            clear hb2 hFX t0 t1
            go_wp2_with fail
            exact ⟨⟨s + 1, by omega, by go_num, rfl, HBs.out⟩, by simp [intOf]; omega⟩
          | true =>
            obtain ⟨hx1, hy1⟩ := HFin.out X Y hFX
            have HIy := hid (HIx.out v2 HBw.out X Y (by omega) (by omega))
            have hpN : plcN wi X Y < N := by rw [← HN.out]; exact plc_lt hx1 hy1
            obtain ⟨pp, hpp⟩ : ∃ pp, plcN wi X Y = pp := ⟨_, rfl⟩
            rw [hpp] at HIy hpN
            have HPp := hid hpp
            have hppi : (pp : Int) < (N : Int) := by omega
            clear hb2 hFX hpp
            go_wp2_with fail
            refine HIy.out.mono ?_
            rintro e3 v3 ⟨rfl, hb3⟩
            have HBs := hid (below_of HBs.out HBs.out.size hb3)
            have f0 := HCell.out v3 (below_of HBl.out HBl.out.size HBs.out) X Y hx1 hy1
            rw [HPp.out] at f0
            have u0 := cell_on hb3 t0
            have u1 := cell_on hb3 t1
            obtain ⟨dv, hdv⟩ : ∃ dv, D X Y = dv := ⟨_, rfl⟩
            rw [hdv] at f0 HSs
            clear hb3 t0 t1 hdv
            rcases Nat.lt_or_ge s sb with hne | hge
            · have hv : (dv == (t : Int)) = false := by have := HSs.out.2 hne; simpa using this
              clear u0 u1
              rw [hti] at wl
              go_wp2_with fail
              exact ⟨⟨s + 1, by omega, by go_num, rfl, HBs.out⟩, by simp [intOf]; omega⟩
            · obtain ⟨hv1, hce⟩ := HSs.out.1 (by omega)
              subst hv1
              have hv : (((t : Nat) : Int) == (t : Int)) = true := by simp
              rw [hti] at wl
              have hiz : (i : Int) + 1 ≤ (dn : Int) := by omega
              go_wp2_with (at_builtin; refine app_many rfl _ _ 67 rfl v3.heap.size 36 (.agg Ce.z.enc.toArray) 2 2 Try.underlying67 (by kernel_rfl) rfl (by decide) _ 1 [.int .i8 X, .int .i8 Y] rfl ?own (some ⟨ob, 0, none⟩) (i + 1) cc (T.flatMap Ce.enc) rfl ?len ?cells ?one ?nil ?bytes (by decide) ?base ?_)
              case own => exact (show (v3.alloc (Obj.cells #[.int .i8 X, .int .i8 Y] 36)).ownsRow v3.heap.size 36 2 (.slice (some ⟨v3.heap.size, 0, none⟩) 1 1) 1 [.int .i8 X, .int .i8 Y] from World.ownsRow_lit v3 #[.int .i8 X, .int .i8 Y] 1 (Nat.le_refl _) (by simp [maxLen]) (by simp))
              case len => exact HOw.out.1
              case cells => exact fun _ => ⟨ob, 0, rfl, fun j u hu => by
                have hj := (List.getElem?_eq_some_iff.1 hu).1
                have h1 := HOw.out.1
                rw [Nat.zero_add]
                exact cell_on ((Below.refl v3.heap.size v3).alloc (Nat.le_refl _) _) (cell_on HBs.out ((HOw.out.cellAt j (by omega)).trans hu))⟩
              case one =>
                intro u hu
                obtain ⟨c1, _, h1⟩ := List.mem_flatMap.1 hu
                simp [Ce.enc] at h1
                rcases h1 with rfl | rfl <;> rfl
              case nil => exact fun h => absurd h (by omega)
              case bytes => omega
              case base => simp
              intro v' w' own' hg' hat'
              obtain ⟨A', c', rfl⟩ := own_slice own'
              have hbw : Below v3.heap.size v3 w' := ((Below.refl v3.heap.size v3).alloc (Nat.le_refl _) _).trans (below_own (v := .slice (some ⟨v3.heap.size, 0, none⟩) 1 1) (Below.refl _ _) (World.ownsRow_lit v3 #[.int .i8 X, .int .i8 Y] 1 (Nat.le_refl _) (by simp [maxLen]) (by simp) (e := 36) (size := 2)) (by simp) hg')
              have HBn := hid (below_of (below_of HBl.out HBl.out.size HBs.out) (below_of HBl.out HBl.out.size HBs.out).size hbw)
              have hnn : 1 + (i + 1) = i + 1 + 1 := Nat.add_comm _ _
              rw [hnn] at own' ⊢
              have HOn := hid (own_low own' (show w1.heap.size ≤ v3.heap.size from (below_of HBl.out HBl.out.size HBs.out).size))
              clear own' hg' hat' hbw hnn
              go_wp2_with fail
              exact ⟨⟨i + 1, A', c', by omega, congrArg (Value.int .i64) (by omega), rfl, by rw [HTN.out, hce]; exact HOn.out, HBn.out⟩, by simp [intOf]; omega⟩
      · have hid' : i = dn := by omega
        subst hid'
        have hd1 : decide ((0 : Int) < (i : Int) - (i : Int)) = false := by rw [decide_eq_false_iff_not]; omega
        have hz0 : ¬ (0 : Int) < (i : Int) - (i : Int) := by omega
        have hTw : tailW D i ⟨p.tx, p.ty⟩ i = (backL D i ⟨p.tx, p.ty⟩).reverse := tailW_all _ _ _
        rw [hTw] at own
        generalize (backL D i ⟨p.tx, p.ty⟩).reverse = P at *
        have hPl : P.length = i + 1 := by
          have h1 := own.1
          have h2 : ∀ Q : List Ce, (Q.flatMap Ce.enc).length = Q.length * 2 := fun Q => by
            induction Q with
            | nil => rfl
            | cons c Q ih => rw [List.flatMap_cons, List.length_append, ih, List.length_cons]; show 2 + Q.length * 2 = _; omega
          rw [h2] at h1
          omega
        rw [← hPl] at own
        have hsl := SlA.of_own Ce.enc_length own
        have HOw2 := hid own
        have hbw := below_of HB1.out HB1.out.size hbl
        have HBw := hid hbw
        obtain ⟨x9, x0, x1, x2, x3, x4, x5, x6⟩ := HWy.out wr hbw
        have hr0 : -100 ≤ p.fx ∧ p.fx ≤ 100 ∧ -100 ≤ p.fy ∧ p.fy ≤ 100 := by omega
        have hr1 : -100 ≤ p.tx ∧ p.tx ≤ 100 ∧ -100 ≤ p.ty ∧ p.ty ≤ 100 := by omega
        have ws1 : IntKind.i64.wrap p.sd = p.sd := IntWalk.i64_in _ (by omega)
        have ws2 : IntKind.i64.wrap p.ou = p.ou := IntWalk.i64_in _ (by omega)
        have HRR2 := hid HRR.out
        unfold endsB at HRR2
        obtain ⟨e1, he1⟩ : ∃ e1 : Bool, P.any (isC (nx p.fx p.sd) (ny p.fy p.sd)) = e1 := ⟨_, rfl⟩
        obtain ⟨e2, he2⟩ : ∃ e2 : Bool, P.any (isC (nx p.tx p.ou) (ny p.ty p.ou)) = e2 := ⟨_, rfl⟩
        rw [he1, he2] at HRR2
        have Hn1 := hid (fun (X : Later wr) => next_S p.fx p.fy p.sd X.w hr0 hsd)
        have Hn2 := hid (fun (X : Later wr) => next_S p.tx p.ty p.ou X.w hr1 hou)
        have Hh1 := hid (fun (X : Later wr) => hasC_S A cc P (nx p.fx p.sd) (ny p.fy p.sd) X.w (hsl.below X.below))
        have Hh2 := hid (fun (X : Later wr) => hasC_S A cc P (nx p.tx p.ou) (ny p.ty p.ou) X.w (hsl.below X.below))
        rw [he1, hPl] at Hh1
        rw [he2, hPl] at Hh2
        generalize nx p.fx p.sd = X0 at *
        generalize ny p.fy p.sd = Y0 at *
        generalize nx p.tx p.ou = X1 at *
        generalize ny p.ty p.ou = Y1 at *
        have hL := @later_cell wr
        have HPl := hid hPl
        clear own hsl hbw hbl hq hqv HOw HRR hPl hTw
        have hcs : (e1 = false ∧ e2 = false) ∨ (e1 = false ∧ e2 = true) ∨ e1 = true := by cases e1 <;> cases e2 <;> simp
        rcases hcs with ⟨rfl, rfl⟩ | ⟨rfl, rfl⟩ | rfl
        · have HR := hid (show R = (P, 0) by rw [HRR2.out]; rfl)
          clear HRR2
          go_wp2_with fail
          refine wp_region_later (by kernel_rfl) (by kernel_rfl) ?_
          repeat (first | go_big_quiet_skip | (go_big_quiet_want; go_big_quiet_op; first | go_big_quiet_on | (apply Exists.intro; refine ⟨fun _ => ?_, ?_⟩; (first | (go_at_call 54; first | with_reducible exact quiet_later (Hn1.out _) | with_reducible exact quiet_later (Hn2.out _)) | (go_at_call 90; first | with_reducible exact quiet_later (Hh1.out _) | with_reducible exact quiet_later (Hh2.out _))); go_big_quiet_on)))
          refine wpQuiet_nil ?_
          rintro ⟨w5, hb5⟩
          dsimp only
          have HB5 := hid (below_of HBw.out HBw.out.size hb5)
          have HO5 := hid (own_step HOw2.out hb5)
          clear hb5
          go_wp2_with fail
          refine bodyPost_ret (v := .tuple #[.slice A (i + 1) cc, .int .i64 0]) (by simp [results, Try.results53, go_sem]) rfl ?_
          rw [HR.out]
          refine ⟨A, cc, by rw [HPl.out], HB5.out, ?_⟩
          exact own_low HO5.out HB1.out.size
        · have HR := hid (show R = ([], 4) by rw [HRR2.out]; first | rfl | (cases e2 <;> rfl))
          clear HRR2
          go_wp2_with fail
          refine wp_region_later (by kernel_rfl) (by kernel_rfl) ?_
          repeat (first | go_big_quiet_skip | (go_big_quiet_want; go_big_quiet_op; first | go_big_quiet_on | (apply Exists.intro; refine ⟨fun _ => ?_, ?_⟩; (first | (go_at_call 54; first | with_reducible exact quiet_later (Hn1.out _) | with_reducible exact quiet_later (Hn2.out _)) | (go_at_call 90; first | with_reducible exact quiet_later (Hh1.out _) | with_reducible exact quiet_later (Hh2.out _))); go_big_quiet_on)))
          refine wpQuiet_nil ?_
          rintro ⟨w5, hb5⟩
          dsimp only
          have HB5 := hid (below_of HBw.out HBw.out.size hb5)
          have HO5 := hid (own_step HOw2.out hb5)
          clear hb5
          go_wp2_with fail
          refine bodyPost_ret (v := .tuple #[.slice (some ⟨w5.heap.size, 0, none⟩) 0 0, .int .i64 4]) (by simp [results, Try.results53, go_sem]) rfl ?_
          rw [HR.out]
          exact ResS.empty HB5.out
        · have HR := hid (show R = ([], 4) by rw [HRR2.out]; first | rfl | (cases e2 <;> rfl))
          clear HRR2
          go_wp2_with fail
          refine wp_region_later (by kernel_rfl) (by kernel_rfl) ?_
          repeat (first | go_big_quiet_skip | (go_big_quiet_want; go_big_quiet_op; first | go_big_quiet_on | (apply Exists.intro; refine ⟨fun _ => ?_, ?_⟩; (first | (go_at_call 54; first | with_reducible exact quiet_later (Hn1.out _) | with_reducible exact quiet_later (Hn2.out _)) | (go_at_call 90; first | with_reducible exact quiet_later (Hh1.out _) | with_reducible exact quiet_later (Hh2.out _))); go_big_quiet_on)))
          refine wpQuiet_nil ?_
          rintro ⟨w5, hb5⟩
          dsimp only
          have HB5 := hid (below_of HBw.out HBw.out.size hb5)
          have HO5 := hid (own_step HOw2.out hb5)
          clear hb5
          go_wp2_with fail
          refine bodyPost_ret (v := .tuple #[.slice (some ⟨w5.heap.size, 0, none⟩) 0 0, .int .i64 4]) (by simp [results, Try.results53, go_sem]) rfl ?_
          rw [HR.out]
          exact ResS.empty HB5.out
theorem shortest_S (bb wb : Nat) (wi hi : Nat) (hw : 1 ≤ wi ∧ wi ≤ 24) (hh : 1 ≤ hi ∧ hi ≤ 24) (a : Option Addr) (c : Nat) (xs : List Pc) (p : Wy) (w : World) (hb : BdA w bb wi hi a xs.length c) (h : SlA Pc.enc 5 w a xs) (hway : WyA w wb p) (hf : freeG wi hi xs p.fx p.fy = true) (ht : freeG wi hi xs p.tx p.ty = true) (hsd : 0 ≤ p.sd ∧ p.sd ≤ 3) (hou : 0 ≤ p.ou ∧ p.ou ≤ 3) :
    Calls Try.prog 53 #[.pointer (some ⟨bb, 0, none⟩), .pointer (some ⟨wb, 0, none⟩)] w (ResS Ce.enc 2 36 w (shortG wi hi xs p).1 (shortG wi hi xs p).2) :=
  shortestO_S bb wb 0 wi hi hw hh a c xs p w hb h hway.o hf ht hsd hou
end Go.Proofs.Ytgkgklgeobbmlaa
