/-
  What an earliest hit leads to: the program's closure.
  Conditions: the board, its pushes and spans are right.
-/
import Derived.Test.YtnabedhhflfepaaLead
import Derived.Deep.RegionLaw
import Derived.Deep.RegionHeld3
import Derived.Deep.CutRange
namespace Go.Proofs.Ytnabedhhflfepaa
open Go.RowKit
set_option linter.unusedSimpArgs false
set_option linter.unusedVariables false

theorem bits_next {f : Nat → Bool} {i j side : Nat} (hs : side < 4) (h : j = i) : bits BinOp.or IntKind.u8 (sBits f) (orB 0 side) = sBits (fun s => decide (j = i ∧ s = side) || f s) := by
  rw [orB_zero hs, sBits_or _ hs]
  refine sBits_congr fun k _ => ?_
  simp [h]
theorem bits_same {f : Nat → Bool} {i j side : Nat} (h : j ≠ i) : sBits (fun s => decide (j = i ∧ s = side) || f s) = sBits f := sBits_congr fun k _ => by simp [h]
theorem addT_skip {N : Net} {i v s : Nat} {ok : Nat → Bool} {E : Nat → Nat} (h : N.near i s = none ∨ ok s = false) : tell N i v ok E s = E := by
  unfold tell
  rcases h with h | h
  · rw [h]
  · cases N.near i s with
    | none => rfl
    | some k => simp [h]
theorem addT_take {N : Net} {i v s k : Nat} {ok : Nat → Bool} {E : Nat → Nat} (h : N.near i s = some k) (ho : ok s = true) : tell N i v ok E s = addT N E k (opp s) v := by
  unfold tell
  rw [h]
  dsimp only
  rw [if_pos ho]
theorem near_cases (D : TmgD) (i s : Nat) : (∃ k : Nat, nearI D.T.xs i s = k ∧ D.net.near i s = some k ∧ k < D.T.xs.length) ∨ (nearI D.T.xs i s < 0 ∧ D.net.near i s = none) := by
  by_cases h : 0 ≤ nearI D.T.xs i s
  · obtain ⟨k, e, hk⟩ := near_nat h
    refine .inl ⟨k, e, ?_, hk⟩
    rw [near_at, e, if_neg (by omega), Int.toNat_natCast]
  · refine .inr ⟨by omega, ?_⟩
    rw [near_at, if_pos (by omega)]
theorem bx3_grown {w w1 : World} {a b c g : Nat} {oa ob oc : Nat} {v0 v1 v2 : Value} (hg : w.grownBy w1 (some g)) (h1 : a ≠ g) (h2 : b ≠ g) (h3 : c ≠ g) (h : w.cell? ⟨a, oa, none⟩ = some v0 ∧ w.cell? ⟨b, ob, none⟩ = some v1 ∧ w.cell? ⟨c, oc, none⟩ = some v2) :
    w1.cell? ⟨a, oa, none⟩ = some v0 ∧ w1.cell? ⟨b, ob, none⟩ = some v1 ∧ w1.cell? ⟨c, oc, none⟩ = some v2 :=
  ⟨hg.cell h.1 (by simpa using h1), hg.cell h.2.1 (by simpa using h2), hg.cell h.2.2 (by simpa using h3)⟩
theorem idxIn {v0 v1 v2 v3 : Int} {f : Nat → Int} (h0 : f 0 = v0) (h1 : f 1 = v1) (h2 : f 2 = v2) (h3 : f 3 = v3) {s : Nat} (hs : s < 4) (W : World) :
    (Instr.index 133 (.agg #[.int .i64 v0, .int .i64 v1, .int .i64 v2, .int .i64 v3]) (.int .i64 (s : Int))).run Try.prog W = .ok (.int .i64 (f s)) W := by
  rcases four_of hs with rfl | rfl | rfl | rfl
  · rw [h0]; kernel_rfl
  · rw [h1]; kernel_rfl
  · rw [h2]; kernel_rfl
  · rw [h3]; kernel_rfl
set_option maxRecDepth 100000 in
set_option maxHeartbeats 4000000 in
theorem leadE_I (D : TmgD) (w0 : World) (hD : D.clk.Ok) (hT0 : Tmg w0 D) (L : Nat → Nat) (lg lc : Nat) (k4 : w0.cell? ⟨D.tb, 4, none⟩ = some (.slice (some ⟨lg, 0, none⟩) D.T.xs.length lc)) (hL0 : TuA w0 lg D.T.xs.length L) (m mb x1 : Nat) (hm : w0.heap.size ≤ m ∧ w0.heap.size ≤ mb ∧ w0.heap.size ≤ x1) (hne : mb ≠ m ∧ x1 ≠ m)
    (w : World) (Dn : Nat → Bool) (E : Nat → Nat) (i side xb ob g c : Nat) (hB : Below w0.heap.size w0 w) (hF : Found (earlyF D.net L) Dn E) (hP : Pick Dn E (4 * D.net.n) (4 * i + side)) (hi : i < D.net.n) (hs : side < 4)
    (cx : w.cell? ⟨xb, 0, none⟩ = some (.pointer (some ⟨D.tb, 0, none⟩))) (co : w.cell? ⟨ob, 0, none⟩ = some (.slice (some ⟨g, 0, none⟩) D.T.xs.length c)) (hE : TuA w g D.T.xs.length E) (hFz : Fz w g) (hg : w0.heap.size ≤ g) (hgm : g ∉ [m, mb, x1]) (hxg : xb ≠ g) (hxm : xb ∉ [m, mb, x1]) (hog : ob ≠ g) (hom : ob ∉ [m, mb, x1]) (hA : AuxE D L m mb x1 w Dn E) :
    Calls Try.prog 85 #[.int .i64 i, .int .i64 side, .int .i64 (E (4 * i + side)), .func (.func 96) #[] #[.pointer (some ⟨xb, 0, none⟩), .pointer (some ⟨ob, 0, none⟩)], .pointer (some ⟨x1, 0, none⟩), .pointer (some ⟨mb, 0, none⟩)] w fun e w' =>
      e = .returned (.tuple #[]) ∧ Only w w' [g, m, mb, x1] ∧ TuA w' g D.T.xs.length (fun y => min (E y) (leadE D.net L i side (E (4 * i + side)) y)) ∧ Fz w' g ∧ AuxE D L m mb x1 w' (plus Dn (4 * i + side)) (fun y => min (E y) (leadE D.net L i side (E (4 * i + side)) y)) := by
  have hN : D.net.Ok := net_ok hD
  have hn : D.T.xs.length ≤ 60 := hD.n
  have hil : i < D.T.xs.length := hi
  have hle : ∀ y, E y ≤ big := fun y => by rw [hF.eq y]; exact (early_tick hN L).le _ _
  have hfin := hP.fin
  have hkeep := found_keep hF hP (leadE_gt (i := i) (side := side) hN L hfin)
  simp only [List.mem_cons, List.not_mem_nil, or_false, not_or] at hgm hxm hom
  have T1 : Tmg w D := hT0.below hB
  obtain ⟨bb, bo, hb, ho, pb, po, mv, lo, hi', hR0, hhit, hmv, hlo, hhi, nlo, nhi⟩ := rdy_of hT0 hD hil hs
  have L1 := hL0.below hB hL0.lt
  have l0 : w.cell? ⟨lg, i * 4, none⟩ = some (.int .i64 (L (4 * i) : Int)) := L1.c i 0 hil (by omega)
  have l1 : w.cell? ⟨lg, i * 4 + 1, none⟩ = some (.int .i64 (L (4 * i + 1) : Int)) := L1.c i 1 hil (by omega)
  have l2 : w.cell? ⟨lg, i * 4 + 2, none⟩ = some (.int .i64 (L (4 * i + 2) : Int)) := L1.c i 2 hil (by omega)
  have l3 : w.cell? ⟨lg, i * 4 + 3, none⟩ = some (.int .i64 (L (4 * i + 3) : Int)) := L1.c i 3 hil (by omega)
  have t4 : w.cell? ⟨D.tb, 4, none⟩ = some (.slice (some ⟨lg, 0, none⟩) D.T.xs.length lc) := cell_on' hB k4
  obtain ⟨ax, am, au, af⟩ := hA
  have hii : (i : Int) < (D.T.xs.length : Int) := by omega
  have hsi : (side : Int) < 4 := by omega
  obtain ⟨t, ht⟩ : ∃ t, E (4 * i + side) = t := ⟨_, rfl⟩
  rw [ht] at hfin
  have HBf := hid (fun W => before_I (fun k => L (4 * i + k)) t side W hfin hs)
  have hbd : bef4 (fun k => L (4 * i + k)) t side = bef L i t side := rfl
  rw [hbd] at HBf
  obtain ⟨bd, hbd2⟩ : ∃ b, bef L i t side = b := ⟨_, rfl⟩
  rw [hbd2] at HBf
  rw [ht]
  rw [ht] at hkeep
  cases bd
  · have HMS := hid (fun j => ms_bits (Dn := Dn) (E := E) (E' := fun y => min (E y) (leadE D.net L i side t y)) (L := L) (i := i) (side := side) (j := j) hs hkeep.1 (by rw [ht]; exact hkeep.2))
    have HMS2 := hid (show ∀ j, sBits (fun s => plus Dn (4 * i + side) (4 * j + s) && !bef L j ((fun y => min (E y) (leadE D.net L i side t y)) (4 * j + s)) s) = sBits (fun s => decide (j = i ∧ s = side) || (Dn (4 * j + s) && !bef L j (E (4 * j + s)) s)) from fun j => by
      rw [HMS.out j, ht, hbd2]
      exact sBits_congr fun k _ => by simp)
    have HFI := hid (fun y => tells_early hN L hi hfin hle hbd2 y)
    have R1 := hid (fun W (h : Below w0.heap.size w0 W) => (⟨Rdy.mk (cell_on' h hR0.t0) (cell_on' h hR0.t1) (cell_on' h hR0.s2) (cell_on' h hR0.s3) (fun s hs => cell_on' h (hR0.be s hs)) (cell_on' h hR0.hc) (cell_on' h hR0.p0) (cell_on' h hR0.p1), hT0.below h⟩ : Rdy W D i side bb bo hb ho pb po mv lo hi' ∧ Tmg W D))
    have zpb : pb < w0.heap.size := World.block_lt_of_cell? w0 _ hR0.p0
    have ztb : D.tb < w0.heap.size := World.block_lt_of_cell? w0 _ k4
    have HEE := hid hE
    have HFF := hid hFz
    have HAu := hid au
    have HAf := hid af
    have hbz := hB.size
    clear hE hFz au af hR0 hkeep hbd2 hbd HMS
    go_enter Try.func85, Try.ntmps85
    go_wp2_with fail
    refine (HBf.out _).mono ?_
    rintro e w1 ⟨rfl, hb1⟩
    have B1 : Below w0.heap.size w0 w1 := hB.trans (hb1.mono hbz)
    have ax1 := cell_on hb1 ax
    have am1 := cell_on hb1 am
    have um1 := cell_on hb1 (HAu.out.c i hil)
    have fm1 : w1.frozen? ⟨m, i, none⟩ = false := (HAf.out.below hb1 HAu.out.lt) i
    obtain ⟨ob8, hob⟩ : ∃ v, sBits (fun s => Dn (4 * i + s) && !bef L i (E (4 * i + s)) s) = v := ⟨_, rfl⟩
    rw [hob] at um1
    have HOB := hid hob
    have hzm := HAu.out.lt
    have hz1 := hb1.size
    have hmw : m < w1.heap.size := by omega
    have hmw2 : m ≠ w1.heap.size := by omega
    have BA : ∀ o, Below w1.heap.size w1 (w1.alloc o) := fun o => (Below.refl _ _).alloc (Nat.le_refl _) _
    have um1a := fun o => cell_on (BA o) um1
    have am1a := fun o => cell_on (BA o) am1
    have fm1a : ∀ o, (w1.alloc o).frozen? ⟨m, i, none⟩ = false := fun o => ((BA o).frozen (p := ⟨m, i, none⟩) hmw).trans fm1
    have hFIN : ∀ o, Only w1 ((w1.setCell ⟨m, i, none⟩ (.int .u8 (bits BinOp.or IntKind.u8 ob8 (orB 0 side)))).alloc o).drew [m] ∧ U8A ((w1.setCell ⟨m, i, none⟩ (.int .u8 (bits BinOp.or IntKind.u8 ob8 (orB 0 side)))).alloc o).drew m D.T.xs.length (fun j => sBits (fun s => decide (j = i ∧ s = side) || (Dn (4 * j + s) && !bef L j (E (4 * j + s)) s))) ∧
        Fz ((w1.setCell ⟨m, i, none⟩ (.int .u8 (bits BinOp.or IntKind.u8 ob8 (orB 0 side)))).alloc o).drew m := by
      intro o
      have bs := (((Below.refl _ _).alloc (Nat.le_refl _) o).drew : Below (w1.setCell ⟨m, i, none⟩ (.int .u8 (bits BinOp.or IntKind.u8 ob8 (orB 0 side)))).heap.size (w1.setCell ⟨m, i, none⟩ (.int .u8 (bits BinOp.or IntKind.u8 ob8 (orB 0 side)))) _)
      have og := Only.of_grown (store_grown w1 m i (.int .u8 (bits BinOp.or IntKind.u8 ob8 (orB 0 side)))) (List.mem_singleton.2 rfl)
      refine ⟨og.trans (Only.of_below bs [m]), ⟨by simp; omega, fun j hj => cell_on bs ?_⟩, ((HAf.out.below hb1 HAu.out.lt).set _ _).below bs (by simpa using hmw)⟩
      by_cases e : j = i
      · subst e
        rw [World.cell?_setCell_same _ _ _ um1, ← bits_next hs rfl, HOB.out]
      · rw [World.cell?_setCell_other _ _ _ _ (by intro x; simp only [Addr.mk.injEq] at x; omega), bits_same e]
        exact cell_on hb1 (HAu.out.c j hj)
    have HFIN := hid hFIN
    clear hob ax am hFIN
    go_upto_region 1 with fail
    go_cut [] from 22 to 30 (fun wx => Only w1 wx [m] ∧ U8A wx m D.T.xs.length (fun j => sBits (fun s => decide (j = i ∧ s = side) || (Dn (4 * j + s) && !bef L j (E (4 * j + s)) s))) ∧ Fz wx m)
    case first =>
      go_region_with ((go_at_call 81; refine (side1_I _ side _ (by omega) (by simp [go_sem])).mono ?_; rintro e w9 ⟨rfl, rfl⟩))
      all_goals (go_wp2_with fail; go_meet)
      all_goals exact HFIN.out _
    case rest =>
      obtain ⟨hOc, hUc, hFc⟩ := hcut
      have HUc := hid hUc
      have HFc := hid hFc
      have HOc := hid hOc
      have Bc : Below w0.heap.size w0 wc := hOc.below B1 B1.size (fun x hx => by simp at hx; omega)
      have axc := hOc.cell ax1 (by simp; exact hne.2)
      have amc := hOc.cell am1 (by simp; exact hne.1)
      have O1c : Only w wc [m] := (Only.of_below hb1 [m]).trans hOc
      have cxc := O1c.cell cx (by simp; exact hxm.1)
      have coc := O1c.cell co (by simp; exact hom.1)
      have Ec := O1c.tu HEE.out (by simp; exact hgm.1)
      have Fc := O1c.fz HFF.out HEE.out.lt (by simp; exact hgm.1)
      obtain ⟨⟨r0, r1, r2, r3, rb, rh, rp0, rp1⟩, hTc⟩ := R1.out wc Bc
      have b0 : wc.cell? ⟨bb, bo + i * 4, none⟩ = some (.int .i64 (nearI D.T.xs i 0)) := rb 0 (by omega)
      have b1' : wc.cell? ⟨bb, bo + i * 4 + 1, none⟩ = some (.int .i64 (nearI D.T.xs i 1)) := rb 1 (by omega)
      have b2 : wc.cell? ⟨bb, bo + i * 4 + 2, none⟩ = some (.int .i64 (nearI D.T.xs i 2)) := rb 2 (by omega)
      have b3 : wc.cell? ⟨bb, bo + i * 4 + 3, none⟩ = some (.int .i64 (nearI D.T.xs i 3)) := rb 3 (by omega)
      have zc := Bc.size
      have HEc := hid Ec
      have HFg := hid Fc
      have HO1 := hid O1c
      clear hUc hFc hOc rb Ec Fc O1c hTc um1 fm1 um1a am1a fm1a l0 l1 l2 l3 t4
      go_wp2_with fail
      go_loopw [41] (fun sv wr => ∃ s : Nat, s ≤ 4 ∧ sv = .int .i64 s ∧ Only wc wr [g] ∧ TuA wr g D.T.xs.length (tells D.net i (t + D.net.low i) (fun s => D.net.hit i side s) E s) ∧ Fz wr g) (fun sv _ => 4 - (intOf sv).toNat)
      case atStart => exact ⟨0, Nat.zero_le _, rfl, Only.refl _ _, HEc.out, HFg.out⟩
      case round =>
        obtain ⟨s, hs4, rfl, hO, hTu, hFz⟩ := hrel
        have Br : Below w0.heap.size w0 wr := hO.below Bc zc (fun x hx => by simp at hx; omega)
        have axr := hO.cell axc (by simp; exact Ne.symm hgm.2.2)
        have HO := hid hO
        have HTu := hid hTu
        have HFz := hid hFz
        by_cases hlt : s < 4
        · have hds : decide ((s : Int) < 4) = true := by rw [decide_eq_true_iff]; omega
          have hss : (s : Int) < 4 := by omega
          obtain ⟨⟨r0', r1', r2', r3', _, rh', rp0', rp1'⟩, hTr⟩ := R1.out wr Br
          have hidx := fun W => idxIn (v0 := nearI D.T.xs i 0) (v1 := nearI D.T.xs i 1) (v2 := nearI D.T.xs i 2) (v3 := nearI D.T.xs i 3) (f := fun j => nearI D.T.xs i j) rfl rfl rfl rfl hlt W
          have HH := hid (fun W => has_W mv s W hmv hlt)
          rw [← hhit s] at HH
          have HST := hid (show tells D.net i (t + D.net.low i) (fun s => D.net.hit i side s) E (s + 1) = tell D.net i (t + D.net.low i) (fun s => D.net.hit i side s) (tells D.net i (t + D.net.low i) (fun s => D.net.hit i side s) E s) s from rfl)
          rcases near_cases D i s with ⟨k, ek, nk, hkl⟩ | ⟨ek, nk⟩
          · obtain ⟨hb9, hhb⟩ : ∃ b, D.net.hit i side s = b := ⟨_, rfl⟩
            rw [hhb] at HH
            simp only [ek] at hidx
            have hge : decide ((k : Int) ≥ 0) = true := by rw [decide_eq_true_iff]; omega
            cases hb9
            · have HTS := hid (HST.out.trans (addT_skip (.inr hhb)))
              clear hhb nk ek hO hTu hFz
              go_wp2_with fail
              refine (HH.out _).mono ?_
              rintro e w3 ⟨rfl, rfl⟩
              go_wp2_with fail
              exact ⟨⟨s + 1, by omega, by go_num, HO.out, by rw [HTS.out]; exact HTu.out, HFz.out⟩, by simp [intOf]; omega⟩
            · have HTS := hid (HST.out.trans (addT_take nk hhb))
              have hcast : ((t + D.net.low i : Nat) : Int) = (t : Int) + lo := by omega
              have HAD := (fun W (hB : Below wr.heap.size wr W) => add_I D xb ob g c k (opp s) (t + D.net.low i) (tells D.net i (t + D.net.low i) (fun s => D.net.hit i side s) E s) W (hTr.below hB) (cell_on hB (hO.cell cxc (by simp; exact hxg))) (cell_on hB (hO.cell coc (by simp; exact hog))) (hTu.below hB hTu.lt) (hFz.below hB hTu.lt) hkl (opp_lt s) (by omega))
              simp only [hcast] at HAD
              replace HAD := hid HAD
              have HOP := hid (fun W => opp_I s W (by omega))
              rw [show ((s : Int) + 2) % 4 = ((opp s : Nat) : Int) by unfold opp; omega] at HOP
              have hwl : IntKind.i64.wrap lo = lo := IntWalk.i64_in _ (by omega)
              have hwt : IntKind.i64.wrap ((t : Int) + lo) = (t : Int) + lo := IntWalk.i64_in _ (by have : big = 1099511627776 := rfl; omega)
              have hS0 : wr.cell? ⟨x1, 0, none⟩ = some (.pointer (some ⟨D.tb, 0, none⟩)) ∧ wr.cell? ⟨D.tb, 1, none⟩ = some (.slice (some ⟨pb, po, none⟩) D.ss.length D.sc) ∧ wr.cell? ⟨pb, po + i * 2, none⟩ = some (.int .i8 lo) := ⟨axr, r1', rp0'⟩
              have n1 : x1 ≠ g := Ne.symm hgm.2.2
              have n2 : D.tb ≠ g := by omega
              have n3 : pb ≠ g := by omega
              have hll : D.ss.length = D.T.xs.length := hD.len
              have hil2 : (i : Int) < (D.ss.length : Int) := by omega
              have hi0 : (0 : Int) ≤ (i : Int) := by omega
              have BD := (Below.refl wr.heap.size wr).drew
              clear hhb nk ek hO hTu hFz
              go_wp2_with fail
              refine (HH.out _).mono ?_
              rintro e w3 ⟨rfl, rfl⟩
              go_wp2_with fail
              go_region_held3 (fun w' => w'.cell? ⟨x1, 0, none⟩ = some (.pointer (some ⟨D.tb, 0, none⟩)) ∧ w'.cell? ⟨D.tb, 1, none⟩ = some (.slice (some ⟨pb, po, none⟩) D.ss.length D.sc) ∧ w'.cell? ⟨pb, po + i * 2, none⟩ = some (.int .i8 lo))
                (first | exact bx3_below BD hS0 | assumption | exact bx3_grown hg3 n1 n2 n3 (by assumption))
                (first
                  | (go_at_call 87; refine (HOP.out _).mono ?_; rintro e w4 ⟨rfl, rfl⟩)
                  | (go_at_call 96; refine (HAD.out _ BD).mono ?_; rintro e w4 ⟨rfl, hg3, ht3, hf3⟩))
              have HT3 := hid ht3
              have HF3 := hid hf3
              have HO3 := hid ((HO.out.trans (Only.of_below BD [g])).trans (Only.of_grown hg3 (List.mem_singleton.2 rfl)))
              clear ht3 hf3 hg3
              go_wp2_with fail
              exact ⟨⟨s + 1, by omega, by go_num, HO3.out, by rw [HTS.out]; exact HT3.out, HF3.out⟩, by simp [intOf]; omega⟩
          · have HTS := hid (HST.out.trans (addT_skip (.inl nk)))
            have hge : decide (nearI D.T.xs i s ≥ 0) = false := by rw [decide_eq_false_iff_not]; omega
            clear nk ek hO hTu hFz
            go_wp2_with fail
            exact ⟨⟨s + 1, by omega, by go_num, HO.out, by rw [HTS.out]; exact HTu.out, HFz.out⟩, by simp [intOf]; omega⟩
        · obtain rfl : s = 4 := by omega
          have hds : decide (((4 : Nat) : Int) < 4) = false := by decide
          clear hO hTu hFz
          go_wp2_with fail
          first | go_end0 | refine bodyPost_ret (results_none rfl _ _ _) rfl ?_
          have OA := ((HO1.out.more (l' := [g, m, mb, x1]) (by simp)).trans (HO.out.more (l' := [g, m, mb, x1]) (by simp)))
          refine ⟨rfl, OA, HTu.out.congr fun y _ => HFI.out y, HFz.out, axr, HO.out.cell amc (by simp; exact Ne.symm hgm.2.1), ?_, HO.out.fz HFc.out HUc.out.lt (by simp; exact Ne.symm hgm.1)⟩
          have := HUc.out.only HO.out (by simp; exact Ne.symm hgm.1)
          refine ⟨this.lt, fun j hj => ?_⟩
          rw [HMS2.out j]
          exact this.c j hj
  · have HEQ := hid (show (fun y => min (E y) (leadE D.net L i side t y)) = E from funext fun y => (before_early (N := D.net) L hle hbd2 y).symm)
    have HAU := hid (show ∀ j, sBits (fun s => plus Dn (4 * i + side) (4 * j + s) && !bef L j (E (4 * j + s)) s) = sBits (fun s => Dn (4 * j + s) && !bef L j (E (4 * j + s)) s) from fun j => by
      rw [ms_bits (E := E) (E' := E) hs (fun _ _ => rfl) rfl, ht, hbd2]
      exact sBits_congr fun k _ => by simp)
    have HE := hid hE
    have HFz := hid hFz
    have HAu := hid au
    have HAf := hid af
    clear hE hFz au af hR0 hkeep hbd2 hbd
    go_enter Try.func85, Try.ntmps85
    go_wp2_with fail
    refine (HBf.out _).mono ?_
    rintro e w1 ⟨rfl, hb1⟩
    go_wp2_with fail
    first | go_end0 | refine bodyPost_ret (results_none rfl _ _ _) rfl ?_
    have O1 := Only.of_below hb1 [g, m, mb, x1]
    rw [HEQ.out]
    refine ⟨rfl, O1, HE.out.below hb1 HE.out.lt, HFz.out.below hb1 HE.out.lt, cell_on hb1 ax, cell_on hb1 am, ?_, HAf.out.below hb1 HAu.out.lt⟩
    refine ⟨Nat.lt_of_lt_of_le HAu.out.lt hb1.size, fun j hj => ?_⟩
    rw [HAU.out j]
    exact cell_on hb1 (HAu.out.c j hj)
end Go.Proofs.Ytnabedhhflfepaa
