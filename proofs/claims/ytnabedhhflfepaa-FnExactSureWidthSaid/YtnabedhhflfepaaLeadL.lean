/-
  Whether a piece always hits; what a latest hit leads to: the program's.
  Conditions: the board, its pushes and spans are right.
-/
import Derived.Test.YtnabedhhflfepaaLeadE
import Derived.Deep.RegionLaw
import Derived.Deep.RegionHeld3
import Derived.Deep.CutRange
namespace Go.Proofs.Ytnabedhhflfepaa
open Go.RowKit
set_option linter.unusedSimpArgs false
set_option linter.unusedVariables false

def AuxL (D : TmgD) (m mb xb : Nat) (w : World) (Dn : Nat → Bool) (E : Nat → Nat) : Prop :=
  w.cell? ⟨xb, 0, none⟩ = some (.pointer (some ⟨D.tb, 0, none⟩)) ∧ w.cell? ⟨mb, 0, none⟩ = some (.slice (some ⟨m, 0, none⟩) D.T.xs.length D.T.xs.length) ∧
  BoA w m D.T.xs.length (fun i => seenBy Dn i) ∧ Fz w m
theorem Only.below_only {w w1 : World} (h : Below w.heap.size w w1) : Only w w1 [] := Only.of_below h []
theorem always_up {N : Net} {S : Nat → Nat → Bool} {q tt : Nat} (h : ∀ fr, fr < 4 → (S q fr && !N.hit q fr tt) = false) : always N S q tt = true := by
  unfold always
  rw [List.all_eq_true]
  intro fr hf
  have := h fr (List.mem_range.1 hf)
  cases h1 : S q fr with
  | false => rfl
  | true => rw [h1] at this; simpa using this
theorem always_not {N : Net} {S : Nat → Nat → Bool} {q tt fr : Nat} (hf : fr < 4) (h : (S q fr && !N.hit q fr tt) = true) : always N S q tt = false := by
  simp only [Bool.and_eq_true, Bool.not_eq_true'] at h
  exact always_false hf h.1 h.2
theorem hit_cell {w : World} {D : TmgD} (hT : Tmg w D) {i : Nat} (hi : i < D.T.xs.length) : ∃ hb ho, w.cell? ⟨D.T.sb, 2, none⟩ = some (.slice (some ⟨hb, ho, none⟩) D.T.xs.length D.T.hc) ∧ ∀ s, s < 4 → ∃ mv, w.cell? ⟨hb, ho + i * 4 + s, none⟩ = some (.int .u8 mv) ∧ (0 ≤ mv ∧ mv ≤ 255) ∧ ∀ t, D.net.hit i s t = bitI mv t := by
  obtain ⟨hb, ho, e2, _, ch⟩ := hT.st.ht.cells (by simp [hitL]; omega)
  have s2 := hT.st.c2
  rw [e2] at s2
  have eh : (hitL D.T.xs)[i]? = some (hitQ D.T.xs[i]) := by simp [hitL, List.getElem?_map, List.getElem?_eq_getElem hi]
  refine ⟨hb, ho, s2, fun s hs => ⟨mx (hitsG D.T.xs[i].k D.T.xs[i].t s), ?_, ?_, fun t => hit_at hi s t⟩⟩
  · have := ch i _ eh s _ (show (hitQ D.T.xs[i]).e8[s]? = some (.int .u8 (mx (hitsG D.T.xs[i].k D.T.xs[i].t s))) by rcases four_of hs with rfl | rfl | rfl | rfl <;> rfl)
    rwa [← Nat.add_assoc] at this
  · have := mx_in D.T.xs[i].k D.T.xs[i].t s
    omega
set_option maxRecDepth 100000 in
set_option maxHeartbeats 2000000 in
theorem always_I (D : TmgD) (S : Nat → Nat → Bool) (mg mc i side : Nat) (w : World) (hD : D.clk.Ok) (hT : Tmg w D) (k5 : w.cell? ⟨D.tb, 5, none⟩ = some (.slice (some ⟨mg, 0, none⟩) D.T.xs.length mc)) (hS : U8A w mg D.T.xs.length (fun i => sBits (S i))) (hi : i < D.T.xs.length) (hs : side < 4) :
    Calls Try.prog 89 #[.pointer (some ⟨D.tb, 0, none⟩), .int .i64 i, .int .i64 side] w fun e w' => e = .returned (.bool (always D.net S i side)) ∧ w = w' := by
  have hn : D.T.xs.length ≤ 60 := hD.n
  obtain ⟨hb, ho, s2, hc⟩ := hit_cell hT hi
  have t0 := hT.c0
  have um := hS.c i hi
  have hsb := sBits_in (S i)
  have HB4 := hid (fun s (h : s < 4) => sBits_has (S i) h)
  generalize sBits (S i) = bits at *
  have hii : (i : Int) < (D.T.xs.length : Int) := by omega
  go_enter Try.func89, Try.ntmps89
  go_wp2_with fail
  go_loop [8] (fun sv => ∃ s : Nat, s ≤ 4 ∧ sv = .int .i64 s ∧ ∀ j, j < s → (S i j && !D.net.hit i j side) = false) (fun sv => 4 - (intOf sv).toNat)
  case atStart => exact ⟨0, Nat.zero_le _, rfl, fun j hj => by omega⟩
  case round =>
    obtain ⟨s, hs4, rfl, hno⟩ := hrel
    have HN := hid hno
    clear hno
    by_cases hlt : s < 4
    · have hds : decide ((s : Int) < 4) = true := by rw [decide_eq_true_iff]; omega
      have hss : (s : Int) < 4 := by omega
      obtain ⟨mv, hmc, hmv, hmb⟩ := hc s hlt
      have H1 := hid (fun W => has_V bits s W hsb hlt)
      have H2 := hid (fun W => has_W mv side W hmv hs)
      rw [HB4.out s hlt] at H1
      rw [← hmb side] at H2
      obtain ⟨b1, h1⟩ : ∃ b, S i s = b := ⟨_, rfl⟩
      obtain ⟨b2, h2⟩ : ∃ b, D.net.hit i s side = b := ⟨_, rfl⟩
      rw [h1] at H1
      rw [h2] at H2
      have HX := hid (show (S i s && !D.net.hit i s side) = (b1 && !b2) by rw [h1, h2])
      clear h1 h2 hmb hc
      cases b1
      · go_wp2_with fail
        refine (H1.out _).mono ?_
        rintro e w1 ⟨rfl, rfl⟩
        go_wp2_with fail
        refine ⟨⟨s + 1, by omega, by go_num, fun j hj => ?_⟩, by simp [intOf]; omega⟩
        rcases Nat.lt_or_ge j s with h | h
        · exact HN.out j h
        · obtain rfl : j = s := by omega
          exact HX.out
      · go_wp2_with fail
        refine (H1.out _).mono ?_
        rintro e w1 ⟨rfl, rfl⟩
        go_wp2_with fail
        refine (H2.out _).mono ?_
        rintro e w1 ⟨rfl, rfl⟩
        cases b2
        · go_wp2_with fail
          go_ret
          exact ⟨ret_bool (always_not hlt HX.out).symm, rfl⟩
        · go_wp2_with fail
          refine ⟨⟨s + 1, by omega, by go_num, fun j hj => ?_⟩, by simp [intOf]; omega⟩
          rcases Nat.lt_or_ge j s with h | h
          · exact HN.out j h
          · obtain rfl : j = s := by omega
            exact HX.out
    · obtain rfl : s = 4 := by omega
      have hds : decide (((4 : Nat) : Int) < 4) = false := by decide
      go_wp2_with fail
      go_ret
      exact ⟨ret_bool (always_up HN.out).symm, rfl⟩
set_option maxRecDepth 100000 in
set_option maxHeartbeats 4000000 in
theorem leadL_I (D : TmgD) (w0 : World) (hD : D.clk.Ok) (hT0 : Tmg w0 D) (S : Nat → Nat → Bool) (mg mc : Nat) (k5 : w0.cell? ⟨D.tb, 5, none⟩ = some (.slice (some ⟨mg, 0, none⟩) D.T.xs.length mc)) (hS0 : U8A w0 mg D.T.xs.length (fun i => sBits (S i))) (m mb x1 : Nat) (hm : w0.heap.size ≤ m ∧ w0.heap.size ≤ mb ∧ w0.heap.size ≤ x1) (hne : mb ≠ m ∧ x1 ≠ m)
    (w : World) (Dn : Nat → Bool) (E : Nat → Nat) (i side xb ob g c : Nat) (hB : Below w0.heap.size w0 w) (hF : Found (lateF D.net S) Dn E) (hP : Pick Dn E (4 * D.net.n) (4 * i + side)) (hi : i < D.net.n) (hs : side < 4)
    (cx : w.cell? ⟨xb, 0, none⟩ = some (.pointer (some ⟨D.tb, 0, none⟩))) (co : w.cell? ⟨ob, 0, none⟩ = some (.slice (some ⟨g, 0, none⟩) D.T.xs.length c)) (hE : TuA w g D.T.xs.length E) (hFz : Fz w g) (hg : w0.heap.size ≤ g) (hgm : g ∉ [m, mb, x1]) (hxg : xb ≠ g) (hxm : xb ∉ [m, mb, x1]) (hog : ob ≠ g) (hom : ob ∉ [m, mb, x1]) (hA : AuxL D m mb x1 w Dn E) :
    Calls Try.prog 88 #[.int .i64 i, .int .i64 side, .int .i64 (E (4 * i + side)), .func (.func 96) #[] #[.pointer (some ⟨xb, 0, none⟩), .pointer (some ⟨ob, 0, none⟩)],   .pointer (some ⟨mb, 0, none⟩), .pointer (some ⟨x1, 0, none⟩)] w fun e w' =>
      e = .returned (.tuple #[]) ∧ Only w w' [g, m, mb, x1] ∧ TuA w' g D.T.xs.length (fun y => min (E y) (leadL D.net S (seenBy Dn i) i (E (4 * i + side)) y)) ∧ Fz w' g ∧ AuxL D m mb x1 w' (plus Dn (4 * i + side)) (fun y => min (E y) (leadL D.net S (seenBy Dn i) i (E (4 * i + side)) y)) := by
  have hN : D.net.Ok := net_ok hD
  have hn : D.T.xs.length ≤ 60 := hD.n
  have hil : i < D.T.xs.length := hi
  have hle : ∀ y, E y ≤ big := fun y => by rw [hF.eq y]; exact (late_tick hN S).le _ _
  have hfin := hP.fin
  simp only [List.mem_cons, List.not_mem_nil, or_false, not_or] at hgm hxm hom
  obtain ⟨bb, bo, hb, ho, pb, po, mv, lo, hi', hR0, hhit, hmv, hlo, hhi, nlo, nhi⟩ := rdy_of hT0 hD hil hs
  have t5 := k5
  obtain ⟨ax, am, au, af⟩ := hA
  have hii : (i : Int) < (D.T.xs.length : Int) := by omega
  obtain ⟨t, ht⟩ : ∃ t, E (4 * i + side) = t := ⟨_, rfl⟩
  rw [ht] at hfin
  rw [ht]
  have um := au.c i hil
  obtain ⟨bd, hbd2⟩ : ∃ b, seenBy Dn i = b := ⟨_, rfl⟩
  rw [hbd2] at um
  rw [hbd2]
  have HSE := hid (fun j => seenBy_step (D := Dn) (i := i) (j := j) hs)
  cases bd
  · have HFI := hid (fun y => tells_late hN S hi hle (t := t) y)
    have R1 := hid (fun W (h : Below w0.heap.size w0 W) => (⟨Rdy.mk (cell_on' h hR0.t0) (cell_on' h hR0.t1) (cell_on' h hR0.s2) (cell_on' h hR0.s3) (fun s hs => cell_on' h (hR0.be s hs)) (cell_on' h hR0.hc) (cell_on' h hR0.p0) (cell_on' h hR0.p1), hT0.below h⟩ : Rdy W D i side bb bo hb ho pb po mv lo hi' ∧ Tmg W D))
    have zpb : pb < w0.heap.size := World.block_lt_of_cell? w0 _ hR0.p1
    have ztb : D.tb < w0.heap.size := World.block_lt_of_cell? w0 _ k5
    have HAL := hid (fun W s (h : Below w0.heap.size w0 W) (hs : s < 4) => always_I D S mg mc i s W hD (hT0.below h) (cell_on' h k5) (hS0.only (Only.below_only h) (by simp)) hil hs)
    have HEE := hid hE
    have HFF := hid hFz
    have HAu := hid au
    have HAf := hid af
    have hbz := hB.size
    have hzm := au.lt
    have fm : w.frozen? ⟨m, i, none⟩ = false := af i
    obtain ⟨wc, hwc⟩ : ∃ W, W = w.setCell ⟨m, i, none⟩ (.bool true) := ⟨_, rfl⟩
    have hOc : Only w wc [m] := by rw [hwc]; exact Only.of_grown (store_grown _ _ _ _) (List.mem_singleton.2 rfl)
    have HUc := hid (show BoA wc m D.T.xs.length (fun j => decide (j = i) || seenBy Dn j) from by
      rw [hwc]
      refine ⟨by simpa using hzm, fun j hj => ?_⟩
      by_cases e : j = i
      · subst e
        rw [World.cell?_setCell_same _ _ _ um]; simp
      · rw [World.cell?_setCell_other _ _ _ _ (by intro x; simp only [Addr.mk.injEq] at x; omega), au.c j hj]
        simp [e])
    have HFc := hid (show Fz wc m from by rw [hwc]; exact af.set _ _)
    have Bc : Below w0.heap.size w0 wc := hOc.below hB hB.size (fun x hx => by simp at hx; omega)
    have axc := hOc.cell ax (by simp; exact hne.2)
    have amc := hOc.cell am (by simp; exact hne.1)
    have cxc := hOc.cell cx (by simp; exact hxm.1)
    have coc := hOc.cell co (by simp; exact hom.1)
    have Ec := hOc.tu hE (by simp; exact hgm.1)
    have Fc := hOc.fz hFz hE.lt (by simp; exact hgm.1)
    obtain ⟨⟨r0, r1, r2, r3, rb, rh, rp0, rp1⟩, hTc⟩ := R1.out wc Bc
    have b0 : wc.cell? ⟨bb, bo + i * 4, none⟩ = some (.int .i64 (nearI D.T.xs i 0)) := rb 0 (by omega)
    have b1' : wc.cell? ⟨bb, bo + i * 4 + 1, none⟩ = some (.int .i64 (nearI D.T.xs i 1)) := rb 1 (by omega)
    have b2 : wc.cell? ⟨bb, bo + i * 4 + 2, none⟩ = some (.int .i64 (nearI D.T.xs i 2)) := rb 2 (by omega)
    have b3 : wc.cell? ⟨bb, bo + i * 4 + 3, none⟩ = some (.int .i64 (nearI D.T.xs i 3)) := rb 3 (by omega)
    have zc := Bc.size
    have HEc := hid Ec
    have HFg := hid Fc
    have HO1 := hid hOc
    clear hE hFz au af hR0 hOc rb Ec Fc hTc hbd2 r0 r1 r2 r3 rh rp0 rp1
    have rT := (R1.out wc Bc).1.t0
    have rS := (R1.out wc Bc).1.s3
    go_enter Try.func88, Try.ntmps88
    go_upto_region 2 with fail
    rw [← hwc]
    clear hwc
    go_wp2_with fail
    go_loopw [29] (fun sv wr => ∃ s : Nat, s ≤ 4 ∧ sv = .int .i64 s ∧ Only wc wr [g] ∧ TuA wr g D.T.xs.length (tells D.net i (t + D.net.high i) (fun s => always D.net S i s) E s) ∧ Fz wr g) (fun sv _ => 4 - (intOf sv).toNat)
    case atStart => exact ⟨0, Nat.zero_le _, rfl, Only.refl _ _, HEc.out, HFg.out⟩
    case round =>
      obtain ⟨s, hs4, rfl, hO, hTu, hFz⟩ := hrel
      have Br : Below w0.heap.size w0 wr := hO.below Bc zc (fun x hx => by simp at hx; omega)
      have axr := hO.cell axc (by simp; exact Ne.symm hgm.2.2)
      have HO := hid hO
      have HTu := hid hTu
      have HFz := hid hFz
      by_cases hlt : s < 4
      · have hds : decide ((s : Int) < 4) = true := by rw [decide_eq_true_iff]; omega
        have hss : (s : Int) < 4 := by omega
        obtain ⟨⟨r0', r1', r2', r3', _, rh', rp0', rp1'⟩, hTr⟩ := R1.out wr Br
        have hidx := fun W => idxIn (v0 := nearI D.T.xs i 0) (v1 := nearI D.T.xs i 1) (v2 := nearI D.T.xs i 2) (v3 := nearI D.T.xs i 3) (f := fun j => nearI D.T.xs i j) rfl rfl rfl rfl hlt W
        have HH := hid (HAL.out wr s Br hlt)
        have HST := hid (show tells D.net i (t + D.net.high i) (fun s => always D.net S i s) E (s + 1) = tell D.net i (t + D.net.high i) (fun s => always D.net S i s) (tells D.net i (t + D.net.high i) (fun s => always D.net S i s) E s) s from rfl)
        rcases near_cases D i s with ⟨k, ek, nk, hkl⟩ | ⟨ek, nk⟩
        · obtain ⟨hb9, hhb⟩ : ∃ b, always D.net S i s = b := ⟨_, rfl⟩
          rw [hhb] at HH
          simp only [ek] at hidx
          have hge : decide ((k : Int) ≥ 0) = true := by rw [decide_eq_true_iff]; omega
          cases hb9
          · have HTS := hid (HST.out.trans (addT_skip (.inr hhb)))
            clear hhb nk ek hO hTu hFz
            go_wp2_with fail
            refine HH.out.mono ?_
            rintro e w3 ⟨rfl, rfl⟩
            go_wp2_with fail
            exact ⟨⟨s + 1, by omega, by go_num, HO.out, by rw [HTS.out]; exact HTu.out, HFz.out⟩, by simp [intOf]; omega⟩
          · have HTS := hid (HST.out.trans (addT_take nk hhb))
            have hcast : ((t + D.net.high i : Nat) : Int) = (t : Int) + hi' := by omega
            have HAD := (fun W (hB : Below wr.heap.size wr W) => add_I D xb ob g c k (opp s) (t + D.net.high i) (tells D.net i (t + D.net.high i) (fun s => always D.net S i s) E s) W (hTr.below hB) (cell_on hB (hO.cell cxc (by simp; exact hxg))) (cell_on hB (hO.cell coc (by simp; exact hog))) (hTu.below hB hTu.lt) (hFz.below hB hTu.lt) hkl (opp_lt s) (by omega))
            simp only [hcast] at HAD
            replace HAD := hid HAD
            have HOP := hid (fun W => opp_I s W (by omega))
            rw [show ((s : Int) + 2) % 4 = ((opp s : Nat) : Int) by unfold opp; omega] at HOP
            have hwl : IntKind.i64.wrap hi' = hi' := IntWalk.i64_in _ (by omega)
            have hwt : IntKind.i64.wrap ((t : Int) + hi') = (t : Int) + hi' := IntWalk.i64_in _ (by have : big = 1099511627776 := rfl; omega)
            have hS0' : wr.cell? ⟨x1, 0, none⟩ = some (.pointer (some ⟨D.tb, 0, none⟩)) ∧ wr.cell? ⟨D.tb, 1, none⟩ = some (.slice (some ⟨pb, po, none⟩) D.ss.length D.sc) ∧ wr.cell? ⟨pb, po + i * 2 + 1, none⟩ = some (.int .i8 hi') := ⟨axr, r1', rp1'⟩
            have n1 : x1 ≠ g := Ne.symm hgm.2.2
            have n2 : D.tb ≠ g := by omega
            have n3 : pb ≠ g := by omega
            have hll : D.ss.length = D.T.xs.length := hD.len
            have hil2 : (i : Int) < (D.ss.length : Int) := by omega
            have hi0 : (0 : Int) ≤ (i : Int) := by omega
            have BD := (Below.refl wr.heap.size wr).drew
            clear hhb nk ek hO hTu hFz
            go_wp2_with fail
            refine HH.out.mono ?_
            rintro e w3 ⟨rfl, rfl⟩
            go_wp2_with fail
            go_region_held3 (fun w' => w'.cell? ⟨x1, 0, none⟩ = some (.pointer (some ⟨D.tb, 0, none⟩)) ∧ w'.cell? ⟨D.tb, 1, none⟩ = some (.slice (some ⟨pb, po, none⟩) D.ss.length D.sc) ∧ w'.cell? ⟨pb, po + i * 2 + 1, none⟩ = some (.int .i8 hi'))
              (first | exact bx3_below BD hS0' | assumption | exact bx3_grown hg3 n1 n2 n3 (by assumption))
              (first
                | (go_at_call 87; refine (HOP.out _).mono ?_; rintro e w4 ⟨rfl, rfl⟩)
                | (go_at_call 96; refine (HAD.out _ BD).mono ?_; rintro e w4 ⟨rfl, hg3, ht3, hf3⟩))
            have HT3 := hid ht3
            have HF3 := hid hf3
            have HO3 := hid ((HO.out.trans (Only.of_below BD [g])).trans (Only.of_grown hg3 (List.mem_singleton.2 rfl)))
            clear ht3 hf3 hg3
            go_wp2_with fail
            exact ⟨⟨s + 1, by omega, by go_num, HO3.out, by rw [HTS.out]; exact HT3.out, HF3.out⟩, by simp [intOf]; omega⟩
        · have HTS := hid (HST.out.trans (addT_skip (.inl nk)))
          have hge : decide (nearI D.T.xs i s ≥ 0) = false := by rw [decide_eq_false_iff_not]; omega
          clear nk ek hO hTu hFz
          go_wp2_with fail
          exact ⟨⟨s + 1, by omega, by go_num, HO.out, by rw [HTS.out]; exact HTu.out, HFz.out⟩, by simp [intOf]; omega⟩
      · obtain rfl : s = 4 := by omega
        have hds : decide (((4 : Nat) : Int) < 4) = false := by decide
        clear hO hTu hFz
        go_wp2_with fail
        first | go_end0 | refine bodyPost_ret (results_none rfl _ _ _) rfl ?_
        have OA := ((HO1.out.more (l' := [g, m, mb, x1]) (by simp)).trans (HO.out.more (l' := [g, m, mb, x1]) (by simp)))
        refine ⟨rfl, OA, HTu.out.congr fun y _ => HFI.out y, HFz.out, axr, HO.out.cell amc (by simp; exact Ne.symm hgm.2.1), ?_, HO.out.fz HFc.out HUc.out.lt (by simp; exact Ne.symm hgm.1)⟩
        have := HUc.out.only HO.out (by simp; exact Ne.symm hgm.1)
        refine ⟨this.lt, fun j hj => ?_⟩
        rw [show seenBy (plus Dn (4 * i + side)) j = (decide (j = i) || seenBy Dn j) from HSE.out j]
        exact this.c j hj
  · have HEQ := hid (show (fun y => min (E y) (leadL D.net S true i t y)) = E from funext fun y => (seen_late (N := D.net) S hle y).symm)
    have HE := hid hE
    have HFz := hid hFz
    have HAu := hid au
    have HAf := hid af
    have HBD := hid hbd2
    clear hE hFz au af hR0 hbd2
    go_enter Try.func88, Try.ntmps88
    go_wp2_with fail
    first | go_end0 | refine bodyPost_ret (results_none rfl _ _ _) rfl ?_
    rw [HEQ.out]
    refine ⟨rfl, Only.refl _ _, HE.out, HFz.out, ax, am, ?_, HAf.out⟩
    refine ⟨HAu.out.lt, fun j hj => ?_⟩
    rw [show seenBy (plus Dn (4 * i + side)) j = (decide (j = i) || seenBy Dn j) from HSE.out j, HAu.out.c j hj]
    by_cases e : j = i
    · subst e; rw [HBD.out]; simp
    · simp [e]
end Go.Proofs.Ytnabedhhflfepaa
