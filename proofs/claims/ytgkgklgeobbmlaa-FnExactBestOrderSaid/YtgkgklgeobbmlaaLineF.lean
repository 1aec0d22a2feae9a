/-
  The shortest line, the program's.
  Conditions: the fields are in their kinds' ranges.
-/
import Derived.Test.YtgkgklgeobbmlaaLineN
import Derived.Test.YtgkgklgeobbmlaaLineE
import Derived.Test.YtgkgklgeobbmlaaLineH
import Derived.Test.YtgkgklgeobbmlaaLineY
namespace Go.Proofs.Ytgkgklgeobbmlaa
open Go.RowKit
set_option linter.unusedSimpArgs false
set_option linter.unusedVariables false

def ShortG (wi hi : Int) (xs : List Pc) (p : Wy) : List Ce × Int := if (bdOk wi hi xs && wayB wi hi xs p) = true then shortG wi hi xs p else ([], 1)
theorem wayB_in {wi hi : Int} {xs : List Pc} {p : Wy} (h : wayB wi hi xs p = true) : (freeG wi hi xs p.fx p.fy = true ∧ freeG wi hi xs p.tx p.ty = true) ∧ (0 ≤ p.sd ∧ p.sd ≤ 3) ∧ (0 ≤ p.ou ∧ p.ou ≤ 3) := by
  unfold wayB at h
  simp only [Bool.and_eq_true, inB_it] at h
  exact ⟨h.1.1.1, h.1.1.2, h.1.2⟩
theorem any_ends (p : Wy) (P : List Ce) : ((endsL p).any fun q => P.any (isC q.x q.y)) = endsB p P := by
  unfold endsL endsB
  simp
/-- The memory of the way back: the cells that are known in a row, their slice in a box, the cell where one stands in a box. -/
structure BkR (w5 wr : World) (mb ob cb : Nat) (D : DstT) (dn i : Nat) (e q : Ce) (A : Option Addr) (cc : Nat) : Prop where
  bel : Below (mb + 1) w5 wr
  row : wr.ownsRow (mb + 1) 36 2 (.slice A (i + 1) cc) (i + 1) (((backL D dn e).take (i + 1)).flatMap Ce.enc)
  at_ : (backL D dn e)[i]? = some q
  oc : wr.cell? ⟨ob, 0, none⟩ = some (.slice A (i + 1) cc)
  fo : wr.frozen? ⟨ob, 0, none⟩ = false
  c0 : wr.cell? ⟨cb, 0, none⟩ = some (.int .i8 q.x)
  c1 : wr.cell? ⟨cb, 1, none⟩ = some (.int .i8 q.y)
  f0 : wr.frozen? ⟨cb, 0, none⟩ = false
  f1 : wr.frozen? ⟨cb, 1, none⟩ = false
  ol : mb < ob
  cl : ob < cb
  nb : ∀ k, (Value.slice A (i + 1) cc).ownBlock = some k → k ≠ ob ∧ k ≠ cb
theorem BkR.below {w5 wr w1 : World} {mb ob cb : Nat} {D : DstT} {dn i : Nat} {e q : Ce} {A : Option Addr} {cc : Nat} (h : BkR w5 wr mb ob cb D dn i e q A cc) (hb : Below wr.heap.size wr w1) : BkR w5 w1 mb ob cb D dn i e q A cc := by
  have hz : mb + 1 ≤ wr.heap.size := by
    have h2 : ob < wr.heap.size := World.block_lt_of_cell? _ _ h.oc
    have := h.ol
    omega
  exact ⟨below_of h.bel hz hb, own_step h.row hb, h.at_, cell_on hb h.oc, (hb.frozen (p := ⟨ob, 0, none⟩) (World.block_lt_of_cell? _ _ h.oc)).trans h.fo, cell_on hb h.c0, cell_on hb h.c1, (hb.frozen (p := ⟨cb, 0, none⟩) (World.block_lt_of_cell? _ _ h.c0)).trans h.f0, (hb.frozen (p := ⟨cb, 1, none⟩) (World.block_lt_of_cell? _ _ h.c1)).trans h.f1, h.ol, h.cl, h.nb⟩
set_option maxRecDepth 100000 in
set_option maxHeartbeats 16000000 in
theorem ShortestCells_I (wi hi : Int) (hwh : -128 ≤ wi ∧ wi ≤ 127 ∧ -128 ≤ hi ∧ hi ≤ 127) (a : Option Addr) (c : Nat) (xs : List Pc) (hs : xs.length ≤ 1048576) (ok : ∀ p ∈ xs, p.Ok) (p : Wy) (okp : p.Ok) (w0 : World) (h0 : SlA Pc.enc 5 w0 a xs) :
    Calls Try.prog 34 #[.agg #[.int .i8 wi, .int .i8 hi, .slice a xs.length c], .agg p.enc.toArray] w0 (ResS Ce.enc 2 36 w0 (ShortG wi hi xs p).1 (ShortG wi hi xs p).2) := by
  obtain ⟨W1, hW1⟩ : ∃ W, W = w0.alloc (.cells #[.int .i8 wi, .int .i8 hi, .slice a xs.length c] 32) := ⟨_, rfl⟩
  have B1 : Below w0.heap.size w0 W1 := by rw [hW1]; exact (Below.refl _ _).alloc (Nat.le_refl _) _
  have bd1 : BdA W1 w0.heap.size wi hi a xs.length c := by rw [hW1]; exact bd_box _ _ _ _ _ _ _
  obtain ⟨W2, hW2⟩ : ∃ W, W = W1.alloc (.cells p.enc.toArray 38) := ⟨_, rfl⟩
  have B2 : Below W1.heap.size W1 W2 := by rw [hW2]; exact (Below.refl _ _).alloc (Nat.le_refl _) _
  have wy2 : WyA W2 W1.heap.size p := by
    rw [hW2]
    exact ⟨by simp, by simp [go_sem, Wy.enc], by simp [go_sem, Wy.enc], by simp [go_sem, Wy.enc], by simp [go_sem, Wy.enc], by simp [go_sem, Wy.enc], by simp [go_sem, Wy.enc]⟩
  have hs1 : W1.heap.size = w0.heap.size + 1 := by rw [hW1]; simp
  have HB2 := hid (below_of B1 B1.size B2)
  have HK := hid (fun W (hW : Below W2.heap.size W2 W) => (⟨(bd1.below B2 bd1.lt).below hW (Nat.lt_of_lt_of_le bd1.lt B2.size), (h0.below HB2.out).below hW, wy2.below hW⟩ : BdA W w0.heap.size wi hi a xs.length c ∧ SlA Pc.enc 5 W a xs ∧ WyA W W1.heap.size p))
  rw [hs1] at HK
  rw [hW1] at hW2
  have HG := hid (show ShortG wi hi xs p = if (bdOk wi hi xs && wayB wi hi xs p) = true then shortG wi hi xs p else ([], 1) from rfl)
  have HV := hid (ValidWay_I wi hi hwh a c xs ok p okp W2 (h0.below HB2.out))
  obtain ⟨v, hv⟩ : ∃ v, (bdOk wi hi xs && wayB wi hi xs p) = v := ⟨_, rfl⟩
  rw [hv] at HV HG
  have HVv := hid hv
  generalize ShortG wi hi xs p = R at *
  clear B1 B2 bd1 wy2 hs1 hW1 hv h0
  obtain ⟨-, -, y⟩ := HK.out W2 (Below.refl _ _)
  obtain ⟨g0, g1, g2⟩ : W2.cell? ⟨w0.heap.size, 0, none⟩ = some (.int .i8 wi) ∧ W2.cell? ⟨w0.heap.size, 1, none⟩ = some (.int .i8 hi) ∧ W2.cell? ⟨w0.heap.size, 2, none⟩ = some (.slice a xs.length c) := by
    obtain ⟨k1, -, -⟩ := HK.out W2 (Below.refl _ _)
    exact ⟨k1.c0, k1.c1, k1.c2⟩
  obtain ⟨-, y0, y1, y2, y3, y4, y5⟩ := y
  obtain ⟨bb, hbb⟩ : ∃ bb, w0.heap.size = bb := ⟨_, rfl⟩
  obtain ⟨wb, hwb⟩ : ∃ wb, bb + 1 = wb := ⟨_, rfl⟩
  have hsz : wb < W2.heap.size := by rw [← hwb, ← hbb, hW2]; simp
  have HSz := hid hsz
  rw [hbb] at HK y0 y1 y2 y3 y4 y5 g0 g1 g2
  rw [hwb] at HK y0 y1 y2 y3 y4 y5
  have HBw := hid (show bb < wb by omega)
  have HBb := hid hbb
  clear hsz
  unfold Wy.enc at hW2 HV
  unfold Wy.enc
  go_enter Try.func34, Try.ntmps34
  go_upto_region 1 with fail
  have hW2' : W2 = (w0.alloc (.cells #[.int .i8 wi, .int .i8 hi, .slice a xs.length c] 32)).alloc (.cells #[.int .i8 p.fx, .int .i8 p.fy, .int .i8 p.sd, .int .i8 p.tx, .int .i8 p.ty, .int .i8 p.ou] 38) := hW2
  rw [← hW2']
  (try rw [hbb])
  (try rw [hwb])
  clear hW2 hW2' hbb hwb
  go_wp2_with fail
  refine HV.out.mono ?_
  rintro e w1 ⟨rfl, hb1⟩
  have HB1 := hid (below_of HB2.out HB2.out.size hb1)
  have HC1 := hid hb1
  clear hb1 g0 g1 g2 y0 y1 y2 y3 y4 y5
  cases v with
  | false =>
    have HR := hid (show R = ([], 1) by rw [HG.out]; rfl)
    go_wp2_with fail
    go_ret2
    rw [HR.out]
    exact ResS.nil HB1.out
  | true =>
    have hv2 := HVv.out
    rw [Bool.and_eq_true] at hv2
    obtain ⟨hbo, hwo⟩ := hv2
    obtain ⟨⟨hfr, hto⟩, hsd, hou⟩ := wayB_in hwo
    obtain ⟨hwi, hhi, -⟩ := bd_in hbo
    obtain ⟨m, rfl⟩ : ∃ m : Nat, wi = (m : Int) := ⟨wi.toNat, by omega⟩
    obtain ⟨n, rfl⟩ : ∃ n : Nat, hi = (n : Int) := ⟨hi.toNat, by omega⟩
    have hif := free_in hfr
    have hit := free_in hto
    have HSt := hid (fun W (hW : Below W2.heap.size W2 W) => steps_I bb m n (by omega) (by omega) a c xs p.fx p.fy W hs (HK.out W hW).1 (HK.out W hW).2.1 ok hfr)
    have hOk := far_ok hfr
    have HOk : Hid (BfsOk (freeG m n xs) ⟨p.fx, p.fy⟩ ((bfsQ (freeG m n xs) ⟨p.fx, p.fy⟩ ((m : Int).toNat * (n : Int).toNat)).1, farD m n xs p.fx p.fy)) := hid hOk
    have HG2 := hid (show R = if farD m n xs p.fx p.fy p.tx p.ty < 0 then ([], 6) else if endsB p (pathW m n xs p) = true then ([], 4) else (pathW m n xs p, 0) by rw [HG.out, if_pos rfl]; rfl)
    have HPw := hid (show pathW m n xs p = (backL (farD m n xs p.fx p.fy) (farD m n xs p.fx p.fy p.tx p.ty).toNat ⟨p.tx, p.ty⟩).reverse from rfl)
    have hNw : m * n ≤ 24 * 24 := Nat.mul_le_mul (by omega) (by omega)
    have hlt := hOk.lt p.tx p.ty
    have hql := nodup_board (wi := m) (hi := n) hOk.nd (fun e he => free_in (hOk.fr e he))
    have hd576 : farD m n xs p.fx p.fy p.tx p.ty < 576 := by
      show (bfsQ (freeG m n xs) ⟨p.fx, p.fy⟩ ((m : Int).toNat * (n : Int).toNat)).2 p.tx p.ty < 576
      omega
    have HFin := hid (fun x y (h : freeG m n xs x y = true) => (show (0 ≤ x ∧ x ≤ 23) ∧ (0 ≤ y ∧ y ≤ 23) by have := free_in h; omega))
    have hD576 := hid (fun x y => (show farD m n xs p.fx p.fy x y < 576 by
      have h1 := hOk.lt x y
      show (bfsQ (freeG m n xs) ⟨p.fx, p.fy⟩ ((m : Int).toNat * (n : Int).toNat)).2 x y < 576
      omega))
    have HWy := hid (fun W (hW : Below W2.heap.size W2 W) => (HK.out W hW).2.2)
    have hif' : (0 ≤ p.fx ∧ p.fx ≤ 23) ∧ (0 ≤ p.fy ∧ p.fy ≤ 23) := by omega
    have hit' : (0 ≤ p.tx ∧ p.tx ≤ 23) ∧ (0 ≤ p.ty ∧ p.ty ≤ 23) := by omega
    generalize pathW m n xs p = PW at *
    generalize farD m n xs p.fx p.fy = D at *
    generalize freeG m n xs = F at *
    have HSt1 := hid (HSt.out w1 HC1.out)
    obtain ⟨-, y0, y1, y2, y3, y4, y5⟩ := HWy.out w1 HC1.out
    clear hNw hlt hql hOk hfr hto hbo hwo hif hit HSt HG HV HVv HK hwi hhi
    go_wp2_with fail
    refine HSt1.out.mono ?_
    rintro e w2 ⟨mb, nm, rfl, hb2, hmb, hpl⟩
    have HC2 := hid (below_of HC1.out HC1.out.size hb2)
    have HB2b := hid (below_of HB1.out HB1.out.size hb2)
    have HPl := hid hpl
    have HMb := hid (Nat.le_trans HC1.out.size hmb)
    have hlk := hpl.look (x := p.tx) (y := p.ty) (by unfold i8B; omega) (by unfold i8B; omega)
    obtain ⟨d, hd⟩ : ∃ d, D p.tx p.ty = d := ⟨_, rfl⟩
    rw [hd] at hlk HG2 HPw hd576
    have HDd := hid hd
    obtain ⟨-, z0, z1, z2, z3, z4, z5⟩ := HWy.out w2 HC2.out
    clear hb2 hpl hd hmb y0 y1 y2 y3 y4 y5
    by_cases hd0 : d < 0
    · have hkd : decide (0 ≤ d) = false := by rw [decide_eq_false_iff_not]; omega
      have HR := hid (show R = ([], 6) by rw [HG2.out, if_pos hd0])
      go_wp2_with fail
      go_ret2
      rw [HR.out]
      exact ResS.nil HB2b.out
    · have hkd : decide (0 ≤ d) = true := by rw [decide_eq_true_iff]; omega
      have hd1 : 0 ≤ d := by omega
      obtain ⟨dn, hdn⟩ : ∃ dn : Nat, d = (dn : Int) := ⟨d.toNat, by omega⟩
      have HRR := hid (show R = if endsB p (backL D dn ⟨p.tx, p.ty⟩).reverse = true then ([], 4) else ((backL D dn ⟨p.tx, p.ty⟩).reverse, 0) by
        rw [HG2.out, if_neg hd0, HPw.out, hdn, Int.toNat_natCast])
      have HDn := hid (show D p.tx p.ty = (dn : Int) by rw [HDd.out, hdn])
      have HDz := hid (show dn ≤ 576 by omega)
      clear hd0 HG2 HPw hd576 hdn HDd
      have u3 : ∀ o1 o2, ((w2.alloc o1).alloc o2).cell? ⟨wb, 4, none⟩ = some (.int .i8 p.ty) := fun o1 o2 => cell_on ((Below.refl _ _).alloc (Nat.le_refl _) o2) (cell_on ((Below.refl _ _).alloc (Nat.le_refl _) o1) z4)
      have u4 : ∀ o1 o2, ((w2.alloc o1).alloc o2).cell? ⟨wb, 3, none⟩ = some (.int .i8 p.tx) := fun o1 o2 => cell_on ((Below.refl _ _).alloc (Nat.le_refl _) o2) (cell_on ((Below.refl _ _).alloc (Nat.le_refl _) o1) z3)
      obtain ⟨W5, hW5⟩ : ∃ W, W = ((w2.alloc (Obj.cells #[.int .i8 p.tx, .int .i8 p.ty] 36)).alloc (Obj.cells #[.slice (some ⟨w2.heap.size, 0, none⟩) 1 1] 67)).alloc (Obj.cells #[.int .i8 p.tx, .int .i8 p.ty] 36) := ⟨_, rfl⟩
      have b25 : Below w2.heap.size w2 W5 := by rw [hW5]; exact (((Below.refl _ _).alloc (Nat.le_refl _) _).alloc (by simp) _).alloc (by simp; omega) _
      have hmz : mb < w2.heap.size := HPl.out.lt
      have hown5 : W5.ownsRow (mb + 1) 36 2 (.slice (some ⟨w2.heap.size, 0, none⟩) 1 1) 1 [.int .i8 p.tx, .int .i8 p.ty] := by
        rw [hW5]
        exact ((World.ownsRow_lit w2 #[.int .i8 p.tx, .int .i8 p.ty] 1 hmz (by simp [maxLen]) (by simp)).alloc _).alloc _
      have ho5 : W5.cell? ⟨w2.heap.size + 1, 0, none⟩ = some (.slice (some ⟨w2.heap.size, 0, none⟩) 1 1) := by rw [hW5]; simp [go_sem]
      have hc50 : W5.cell? ⟨w2.heap.size + 1 + 1, 0, none⟩ = some (.int .i8 p.tx) := by rw [hW5]; simp [go_sem]
      have hc51 : W5.cell? ⟨w2.heap.size + 1 + 1, 1, none⟩ = some (.int .i8 p.ty) := by rw [hW5]; simp [go_sem]
      have hfo : W5.frozen? ⟨w2.heap.size + 1, 0, none⟩ = false := by rw [hW5]; simp [go_sem]
      have hfc0 : W5.frozen? ⟨w2.heap.size + 1 + 1, 0, none⟩ = false := by rw [hW5]; simp [go_sem]
      have hfc1 : W5.frozen? ⟨w2.heap.size + 1 + 1, 1, none⟩ = false := by rw [hW5]; simp [go_sem]
      go_upto_region 9 with fail
      rw [← hW5]
      clear hW5
      obtain ⟨gz, hgz⟩ : ∃ gz, w2.heap.size = gz := ⟨_, rfl⟩
      obtain ⟨ob, hob⟩ : ∃ ob, gz + 1 = ob := ⟨_, rfl⟩
      obtain ⟨cb, hcb⟩ : ∃ cb, ob + 1 = cb := ⟨_, rfl⟩
      rw [hgz] at hown5 ho5 hc50 hc51 hfo hfc0 hfc1 hmz
      rw [hob] at ho5 hc50 hc51 hfo hfc0 hfc1
      rw [hcb] at hc50 hc51 hfc0 hfc1
      have HK0 : Hid (BkR W5 W5 mb ob cb D dn 0 ⟨p.tx, p.ty⟩ ⟨p.tx, p.ty⟩ (some ⟨gz, 0, none⟩) 1) := hid ⟨Below.refl _ _, by
        have e1 : (backL D dn ⟨p.tx, p.ty⟩).take (0 + 1) = [⟨p.tx, p.ty⟩] := by cases dn <;> rfl
        rw [e1]; exact hown5, backL_zero _ _ _, ho5, hfo, hc50, hc51, hfc0, hfc1, by omega, by omega, fun k hk => by
          have : k = gz := by simpa [Value.ownBlock] using hk.symm
          omega⟩
      have HC5 := hid (below_of HC2.out HC2.out.size b25)
      have HB5 := hid (below_of HB2b.out HB2b.out.size b25)
      have HP5 := hid (HPl.out.below b25 HPl.out.lt)
      have HMz := hid (show mb + 1 ≤ W5.heap.size from Nat.le_trans (by rw [hgz]; omega) b25.size)
      (try rw [hgz])
      (try rw [hob])
      (try rw [hcb])
      clear hown5 ho5 hc50 hc51 hfo hfc0 hfc1 hmz hgz hob hcb b25 u3 u4 z0 z1 z2 z3 z4 z5 hlk
      have HBk := hid (fun i (hi' : i ≤ dn) => backL_at HOk.out dn ⟨p.tx, p.ty⟩ HDn.out i hi')
      go_loopg [10] dn (fun gk cv wr => ∃ (i cb : Nat) (q : Ce) (A : Option Addr) (cc : Nat), i + gk = dn ∧ cv = .pointer (some ⟨cb, 0, none⟩) ∧ BkR W5 wr mb ob cb D dn i ⟨p.tx, p.ty⟩ q A cc)
      case atStart => exact ⟨0, cb, ⟨p.tx, p.ty⟩, _, 1, by omega, rfl, HK0.out⟩
      case round =>
        clear HK0
        obtain ⟨i, cb, q, A, cc, hgk, rfl, hk⟩ := hrel
        obtain ⟨q', hq', hqv, hqn⟩ := HBk.out i (by omega)
        clear hqn
        obtain rfl : q' = q := by have h1 := hk.at_; rw [hq'] at h1; injection h1
        have HHk := hid hk
        have HWb := hid (below_of HC5.out (Nat.le_trans (by have := HMb.out; omega) HMz.out) ((Below.refl W5.heap.size W5)))
        have HWr := hid (HC5.out.trans (hk.bel.mono (by have := HMb.out; omega)))
        have HPr := hid (HP5.out.below hk.bel (Nat.lt_succ_self _))
        obtain ⟨-, x0, x1, x2, x3, x4, x5⟩ := HWy.out wr HWr.out
        have k0 := hk.c0
        have k1 := hk.c1
        have heq := fun W => eql_Ce q'.x q'.y p.fx p.fy W
        clear hk
        have hqv : D q'.x q'.y = ((dn - i : Nat) : Int) := hqv
        have hq' : (backL D dn ⟨p.tx, p.ty⟩)[i]? = some q' := hq'
        have hzz : D q'.x q'.y = 0 ↔ (q'.x = p.fx ∧ q'.y = p.fy) := HOk.out.zero q'.x q'.y
        have hqF : F q'.x q'.y = true := HOk.out.fr ⟨q'.x, q'.y⟩ ((HOk.out.dom q'.x q'.y).1 (by show 0 ≤ D q'.x q'.y; omega))
        have hqin := HFin.out q'.x q'.y hqF
        by_cases hi0 : i < dn
        · have hne : ¬ (q'.x = p.fx ∧ q'.y = p.fy) := fun h => by
            have := hzz.2 h
            omega
          rw [decide_eq_false hne] at heq
          obtain ⟨t, htt⟩ : ∃ t : Nat, dn - (i + 1) = t := ⟨_, rfl⟩
          have hqt : D q'.x q'.y = (t : Int) + 1 := by rw [hqv]; omega
          obtain ⟨sb, hsb4, hbs, hbc, hbv⟩ := backC_step HOk.out (e := q') (d := t) hqt
          obtain ⟨-, hsv, hsn⟩ := backS_at hbs
          have hsv : D (nx q'.x sb) (ny q'.y sb) = (t : Int) := hsv
          have hsn : ∀ s : Nat, s < sb → D (nx q'.x s) (ny q'.y s) ≠ (t : Int) := hsn
          have hnext := backL_next D dn ⟨p.tx, p.ty⟩ i q' hq' hi0
          rw [htt, show backC D q' (t : Int) = ⟨nx q'.x sb, ny q'.y sb⟩ from hbc] at hnext
          have HNe := hid hnext
          have HSV := hid hsv
          have HSN := hid hsn
          have HGk := hid (show i + 1 + (gk - 1) = dn ∧ gk - 1 < gk by omega)
          have htb := hD576.out q'.x q'.y
          have wt : IntKind.i64.wrap ((t : Int) + 1 - 1) = (t : Int) := by rw [show (t : Int) + 1 - 1 = t by omega]; exact IntWalk.i64_in _ (by omega)
          have wt2 : IntKind.i64.wrap (t : Int) = (t : Int) := IntWalk.i64_in _ (by omega)
          have HQt := hid hqt
          have HTi := hid (show t ≤ 576 by omega)
          clear hne hqv hzz hqF hq' hbs hbc hbv hsv hsn hnext htt hqt hgk htb hi0
          obtain ⟨V, hV⟩ : ∃ V, V = wr := ⟨_, rfl⟩
          subst hV
          go_wp2_with fail
          clear heq x0 x1 x2 x3 x4 x5
          go_loopw [39] (fun sv wr => ∃ s : Nat, s ≤ sb ∧ sv = .int .i64 s ∧ Below V.heap.size V wr) (fun sv _ => 4 - (intOf sv).toNat)
          case atStart => exact ⟨0, Nat.zero_le _, rfl, Below.refl _ _⟩
          case round =>
            obtain ⟨s, hs, rfl, hbs⟩ := hrel
            have hsi : (s : Int) < 4 := by omega
            have hd2 : decide ((s : Int) < 4) = true := by rw [decide_eq_true_iff]; omega
            have ws : IntKind.i64.wrap ((s : Int) + 1) = (s : Int) + 1 := IntWalk.i64_in _ (by omega)
            have hk := HHk.out.below hbs
            have q0 := hk.c0
            have q1 := hk.c1
            have HBs := hid hbs
            have HNx := hid (next_I q'.x q'.y s wr (by omega) (by omega))
            have hX : -1 ≤ nx q'.x s ∧ nx q'.x s ≤ 24 := by unfold nx; split <;> (try split) <;> omega
            have hY : -1 ≤ ny q'.y s ∧ ny q'.y s ≤ 24 := by unfold ny; split <;> (try split) <;> omega
            have HSs := hid (show (s = sb → D (nx q'.x s) (ny q'.y s) = (t : Int) ∧ (⟨nx q'.x sb, ny q'.y sb⟩ : Ce) = ⟨nx q'.x s, ny q'.y s⟩) ∧ (s < sb → D (nx q'.x s) (ny q'.y s) ≠ (t : Int)) from ⟨fun h => by subst h; exact ⟨HSV.out, rfl⟩, fun h => HSN.out s h⟩)
            have HN2 := hid (fun W => next_I q'.x q'.y s W (by omega) (by omega))
            generalize nx q'.x s = X at *
            generalize ny q'.y s = Y at *
            clear hbs hk
            go_wp2_with fail
            refine HNx.out.mono ?_
            rintro e1 v1 ⟨rfl, hb1⟩
            have HBs := hid (below_of HBs.out HBs.out.size hb1)
            have hk1 := HHk.out.below HBs.out
            have q0 := hk1.c0
            have q1 := hk1.c1
            have z0 := hk1.f0
            have z1 := hk1.f1
            have HK1 := hid hk1
            have hpl1 := HPr.out.below HBs.out HPr.out.lt
            have hlk1 := hpl1.look (x := X) (y := Y) (by unfold i8B; omega) (by unfold i8B; omega)
            have hlk2 := hpl1.look1 (x := q'.x) (y := q'.y) (by unfold i8B; omega) (by unfold i8B; omega)
            rw [HQt.out, if_pos (by omega)] at hlk2
            have HPl1 := hid hpl1
            obtain ⟨dv, hdv⟩ : ∃ dv, D X Y = dv := ⟨_, rfl⟩
            rw [hdv] at hlk1 HSs
            clear hb1 hk1 hpl1 hdv
            rcases Nat.lt_or_ge s sb with hlt | hge
            · have hdne := HSs.out.2 hlt
              by_cases hdv0 : 0 ≤ dv
              · have hkd1 : decide (0 ≤ dv) = true := by rw [decide_eq_true_iff]; exact hdv0
                have hdt : (dv == (t : Int)) = false := by simpa using hdne
                go_wp2_with fail
                go_roundw
                case measure => simp [intOf]; omega
                case rel => exact ⟨s + 1, by omega, by go_num, HBs.out⟩
              · have hkd1 : decide (0 ≤ dv) = false := by rw [decide_eq_false_iff_not]; exact hdv0
                go_wp2_with fail
                go_roundw
                case measure => simp [intOf]; omega
                case rel => exact ⟨s + 1, by omega, by go_num, HBs.out⟩
            · obtain ⟨hdt, hce⟩ := HSs.out.1 (by omega)
              subst hdt
              have hkd1 : decide (0 ≤ (t : Int)) = true := by rw [decide_eq_true_iff]; omega
              have ht0 : (0 : Int) ≤ (t : Int) := by omega
              have htt : (((t : Nat) : Int) == (t : Int)) = true := by simp
              have HNe := hid (HNe.out.trans (congrArg some hce))
              clear hce hge
              go_wp2_with fail
              refine (HN2.out _).mono ?_
              rintro e2 v2 ⟨rfl, hb2⟩
              have hk2 := HK1.out.below hb2
              obtain ⟨V2, hV2⟩ : ∃ W, W = (v2.setCell ⟨cb, 0, none⟩ (.int .i8 X)).setCell ⟨cb, 1, none⟩ (.int .i8 Y) := ⟨_, rfl⟩
              have hbel2 := hk2.bel
              have hrow2 := hk2.row
              have hcm : mb + 1 ≤ cb := by have := hk2.ol; have := hk2.cl; omega
              have hcz : cb < v2.heap.size := World.block_lt_of_cell? _ _ hk2.c0
              have hoc : ob ≠ cb := by have := hk2.cl; omega
              have hnb : ∀ k, (Value.slice A (i + 1) cc).ownBlock = some k → k ≠ cb := fun k hk => (hk2.nb k hk).2
              have bl2 : Below (mb + 1) W5 V2 := by rw [hV2]; exact (hbel2.setCell (p := ⟨cb, 0, none⟩) hcm _).setCell (p := ⟨cb, 1, none⟩) hcm _
              have rw2 : V2.ownsRow (mb + 1) 36 2 (.slice A (i + 1) cc) (i + 1) (((backL D dn ⟨p.tx, p.ty⟩).take (i + 1)).flatMap Ce.enc) := by rw [hV2]; exact own_setE (own_setE hrow2 hnb _) hnb _
              have oc2 : V2.cell? ⟨ob, 0, none⟩ = some (.slice A (i + 1) cc) := by
                rw [hV2, World.cell?_setCell_other _ _ _ _ (fun e => hoc (by injection e with e; exact e.symm)), World.cell?_setCell_other _ _ _ _ (fun e => hoc (by injection e with e; exact e.symm))]
                exact hk2.oc
              have fo2 : V2.frozen? ⟨ob, 0, none⟩ = false := by rw [hV2, World.frozen?_setCell, World.frozen?_setCell]; exact hk2.fo
              have cx2 : V2.cell? ⟨cb, 0, none⟩ = some (.int .i8 X) := by
                rw [hV2, World.cell?_setCell_other _ _ _ _ (by simp), World.cell?_setCell_same _ _ _ hk2.c0]
              have cy2 : V2.cell? ⟨cb, 1, none⟩ = some (.int .i8 Y) := by
                rw [hV2]
                refine World.cell?_setCell_same (u := .int .i8 q'.y) _ _ _ ?_
                rw [World.cell?_setCell_other _ _ _ _ (by simp)]
                exact hk2.c1
              have hz2 : V2.heap.size = v2.heap.size := by rw [hV2]; simp
              have z0 := hk2.f0
              have z1 := hk2.f1
              have q0 := hk2.c0
              have q1 := hk2.c1
              have HLn := hid hk2.ol
              have HLc := hid hk2.cl
              have HNb := hid hk2.nb
              clear hk2 hbel2 hrow2 hb2 hnb
              go_upto_region 17 with fail
              rw [← hV2]
              have HRw := hid rw2
              have hm2 : mb + 1 ≤ V2.heap.size := by omega
              have HBl2 := hid bl2
              have HHz := hid (show ob < V2.heap.size ∧ cb < V2.heap.size from ⟨by have := HLc.out; omega, by omega⟩)
              clear hV2 rw2 bl2 z0 z1 q0 q1 hz2 hcz hcm hlk1 hlk2
              go_wp2_with (at_builtin; refine app_one (w := V2) 67 36 (.agg Ce.z.enc.toArray) 2 2 Try.underlying67 (by kernel_rfl) rfl (by decide) (mb + 1) _ (i + 1) _ HRw.out ?d1 (by decide) hm2 [.int .i8 X, .int .i8 Y] _ _ rfl rfl rfl _ rfl ?d3 rfl (by intro u hu; simp at hu; rcases hu with rfl | rfl <;> rfl) ?_)
              case d1 => have := HGk.out; have := HDz.out; omega
              case d3 => rfl
              intro A7 c7 w7 own7 hb7 hg7 hat7
              have n1 : ∀ k, (Value.slice A (i + 1) cc).ownBlock = some k → k ≠ ob ∧ k ≠ cb := HNb.out
              have nr0 : some ob ≠ (Value.slice A (i + 1) cc).ownBlock := fun h => (n1 ob h.symm).1 rfl
              have nr1 : some cb ≠ (Value.slice A (i + 1) cc).ownBlock := fun h => (n1 cb h.symm).2 rfl
              have oc7 : w7.cell? ⟨ob, 0, none⟩ = some (.slice A (i + 1) cc) := (hg7.cell_far ⟨ob, 0, none⟩ HHz.out.1 nr0).trans oc2
              have fo7 : w7.frozen? ⟨ob, 0, none⟩ = false := (hg7.frozen_far ⟨ob, 0, none⟩ HHz.out.1 nr0).trans fo2
              have cx7 : w7.cell? ⟨cb, 0, none⟩ = some (.int .i8 X) := (hg7.cell_far ⟨cb, 0, none⟩ HHz.out.2 nr1).trans cx2
              have cy7 : w7.cell? ⟨cb, 1, none⟩ = some (.int .i8 Y) := (hg7.cell_far ⟨cb, 1, none⟩ HHz.out.2 nr1).trans cy2
              have n7 : ∀ k, (Value.slice A7 (i + 1 + 1) c7).ownBlock = some k → k ≠ ob ∧ k ≠ cb := fun k hk => by
                rcases hat7 with h | h
                · exact n1 k (by rw [← h]; exact hk)
                · have h1 := h k hk
                  have h2 := HHz.out
                  exact ⟨by omega, by omega⟩
              have hz7 := hg7.size
              have hl7 : ∀ k, (Value.slice A7 (i + 1 + 1) c7).ownBlock = some k → k < w7.heap.size := fun k hk => (own7.lt k hk).2
              have HB7 := hid (HBl2.out.trans hb7)
              have HO7 := hid own7
              have HN7 := hid n7
              have HL7 := hid hl7
              obtain ⟨W8, hW8⟩ : ∃ W, W = w7.setCell ⟨ob, 0, none⟩ (.slice A7 (i + 1 + 1) c7) := ⟨_, rfl⟩
              have cx8 : W8.cell? ⟨cb, 0, none⟩ = some (.int .i8 X) := by rw [hW8, World.cell?_setCell_other _ _ _ _ (fun e => hoc (by injection e))]; exact cx7
              have cy8 : W8.cell? ⟨cb, 1, none⟩ = some (.int .i8 Y) := by rw [hW8, World.cell?_setCell_other _ _ _ _ (fun e => hoc (by injection e))]; exact cy7
              have hmo : mb + 1 ≤ ob := HLn.out
              have hm7 : mb + 1 ≤ w7.heap.size := by omega
              have HKn : Hid (BkR W5 (W8.alloc (.cells #[.int .i8 X, .int .i8 Y] 36)) mb ob w7.heap.size D dn (i + 1) ⟨p.tx, p.ty⟩ ⟨X, Y⟩ A7 c7) := hid (by
                have hz8 : W8.heap.size = w7.heap.size := by rw [hW8]; simp
                have b8 : Below W8.heap.size W8 (W8.alloc (.cells #[.int .i8 X, .int .i8 Y] 36)) := (Below.refl _ _).alloc (Nat.le_refl _) _
                have e8 : (backL D dn ⟨p.tx, p.ty⟩).take (i + 1 + 1) = (backL D dn ⟨p.tx, p.ty⟩).take (i + 1) ++ [⟨X, Y⟩] := by rw [List.take_add_one, HNe.out]; rfl
                refine ⟨?_, ?_, HNe.out, ?_, ?_, ?_, ?_, ?_, ?_, HLn.out, ?_, ?_⟩
                · rw [hW8]; exact (HB7.out.setCell (p := ⟨ob, 0, none⟩) hmo _).alloc (by rw [World.size_setCell]; exact hm7) _
                · refine own_step ?_ b8
                  rw [hW8, e8, List.flatMap_append]
                  exact own_setE HO7.out (fun k hk => (HN7.out k hk).1) _
                · refine cell_on b8 ?_
                  rw [hW8]
                  exact World.cell?_setCell_same _ _ _ oc7
                · refine (b8.frozen (p := ⟨ob, 0, none⟩) (by show ob < W8.heap.size; rw [hz8]; have := HHz.out; omega)).trans ?_
                  rw [hW8, World.frozen?_setCell]; exact fo7
                · rw [← hz8]; simp
                · rw [← hz8]; simp
                · rw [← hz8]; simp
                · rw [← hz8]; simp
                · have := HHz.out; omega
                · exact fun k hk => ⟨(HN7.out k hk).1, by have := HL7.out k hk; omega⟩)
              have HZ8 : Hid (W8.heap.size = w7.heap.size) := hid (by rw [hW8]; simp)
              clear own7 hb7 hg7 hat7 n1 nr0 nr1 n7 hz7 hl7 oc2 fo2 cx2 cy2
              go_upto_region 18 with fail
              rw [← hW8]
              go_wp2_with fail
              rw [← hW8]
              go_roundg (gk - 1)
              case measure => exact HGk.out.2
              case rel => exact ⟨i + 1, w7.heap.size, ⟨X, Y⟩, A7, c7, HGk.out.1, rfl, HKn.out⟩
        · have hin : i = dn := by omega
          have hyes : q'.x = p.fx ∧ q'.y = p.fy := hzz.1 (by rw [hqv]; omega)
          rw [decide_eq_true hyes] at heq
          subst hin
          have hk := HHk.out
          have hbl := hk.bel
          have e1 : (backL D i ⟨p.tx, p.ty⟩).take (i + 1) = backL D i ⟨p.tx, p.ty⟩ := List.take_of_length_le (by rw [backL_len]; exact Nat.le_refl _)
          have hown := hk.row
          rw [e1] at hown
          obtain ⟨g, hA⟩ : ∃ g, A = some ⟨g, 0, none⟩ := by
            obtain ⟨ob', cap', hv', _, _⟩ := hown.form (by omega)
            injection hv' with hv1
            exact ⟨ob', hv1⟩
          subst hA
          have hBl := backL_len D i ⟨p.tx, p.ty⟩
          generalize backL D i ⟨p.tx, p.ty⟩ = P at *
          have HPl1 := hid hBl
          rw [← hBl] at hown
          have HRev := hid (reverseC_I P g cc (mb + 1) wr (by have := HDz.out; omega) hown)
          rw [hBl] at HRev
          have oc := hk.oc
          have HNb := hid (hk.nb g rfl)
          have HOl := hid hk.ol
          have HBlw := hid hbl
          have HGg := hid ((hown.lt g rfl).1)
          have hol : ob < wr.heap.size := World.block_lt_of_cell? _ _ hk.oc
          have HObl := hid hol
          clear hk hbl e1 hown hBl hyes hzz hqv hq' hqF hqin hi0 hgk HBk HHk HPr hol
          go_wp2_with fail
          refine HRev.out.mono ?_
          rintro e v1 ⟨rfl, hg1, own1⟩
          have hgo : some ob ≠ some g := fun h => by injection h with h; exact HNb.out.1 h.symm
          have oc1 : v1.cell? ⟨ob, 0, none⟩ = some (.slice (some ⟨g, 0, none⟩) (i + 1) cc) := (hg1.cell_far ⟨ob, 0, none⟩ HObl.out hgo).trans oc
          have HB1' := hid (HBlw.out.grown hg1 (Nat.le_trans HMz.out HBlw.out.size) (fun k hk => by injection hk with hk; subst hk; exact HGg.out))
          have HW1 := hid (HC5.out.trans (HB1'.out.mono (by have := HMb.out; omega)))
          obtain ⟨-, y0, y1, y2, y3, y4, y5⟩ := HWy.out v1 HW1.out
          have HO1 := hid own1
          have HE := hid (ends_I p v1 (by omega) (by omega) hsd hou)
          unfold Wy.enc at HE
          clear own1 hg1 oc x0 x1 x2 x3 x4 x5 k0 k1 heq hgo
          go_wp2_with fail
          refine HE.out.mono ?_
          rintro e v2 ⟨Ae, ce, rfl, hb2, own2⟩
          have HB2' := hid (below_of HB1'.out (Nat.le_trans HMz.out HB1'.out.size) hb2)
          have oc2 := cell_on hb2 oc1
          have HO2 := hid (own_step HO1.out hb2)
          have hPl : P.reverse.length = i + 1 := by rw [List.length_reverse]; exact HPl1.out
          have hsl : SlA Ce.enc 2 v2 (some ⟨g, 0, none⟩) P.reverse := SlA.of_own Ce.enc_length (by rw [hPl]; exact HO2.out)
          have hse := SlA.of_own Ce.enc_length own2
          have HCf := anyF_C 71 (enters_of Try.func71 (by kernel_rfl) rfl) #[.pointer (some ⟨ob, 0, none⟩)] (fun q => P.reverse.any (isC q.x q.y)) Ae ce (endsL p) v2 hse (fun q _ W hW => shortFn_I ob (some ⟨g, 0, none⟩) cc (i + 1) P.reverse q.x q.y W hPl.symm (hsl.below hW) (cell_on hW oc2))
          rw [any_ends] at HCf
          have HCf := hid HCf
          obtain ⟨b, hb⟩ : ∃ b, endsB p P.reverse = b := ⟨_, rfl⟩
          rw [hb] at HRR HCf
          have HBt := hid (HB5.out.trans (HB2'.out.mono (by have := HB2b.out.size; have := HPl.out.lt; have := HMb.out; have := HB2.out.size; omega)))
          have HPr := hid hPl
          have hel : (endsL p).length = 2 := rfl
          rw [hel] at HCf
          rw [hel]
          clear hb2 own2 hPl hsl hse hb oc1 y0 y1 y2 y3 y4 y5 hel
          go_wp2_with fail
          refine HCf.out.mono ?_
          rintro e v3 ⟨rfl, hb3⟩
          have oc3 := cell_on hb3 oc2
          have HB3 := hid (below_of HBt.out HBt.out.size hb3)
          have HO3 := hid (own_step HO2.out hb3)
          clear hb3 oc2
          cases b with
          | true =>
            have HR := hid (show R = ([], 4) by rw [HRR.out]; rfl)
            go_wp2_with fail
            go_ret2
            rw [HR.out]
            exact ResS.nil HB3.out
          | false =>
            have HR := hid (show R = (P.reverse, 0) by rw [HRR.out]; rfl)
            go_wp2_with fail
            refine bodyPost_ret (v := .tuple #[.slice (some ⟨g, 0, none⟩) (i + 1) cc, .int .i64 0]) (by simp [results, Try.results34, go_sem]) rfl ?_
            rw [HR.out]
            refine ⟨some ⟨g, 0, none⟩, cc, by rw [HPr.out], HB3.out, ?_⟩
            rw [HPr.out]
            exact own_low HO3.out (by have := HB2.out.size; have := HMb.out; omega)
end Go.Proofs.Ytgkgklgeobbmlaa
