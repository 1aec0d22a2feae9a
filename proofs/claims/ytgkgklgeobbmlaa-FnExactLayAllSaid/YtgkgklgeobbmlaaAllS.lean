/-
  Lines for several ways, the reference's.
  Conditions: the fields are in their kinds' ranges.
-/
import Derived.Test.YtgkgklgeobbmlaaAllLaw
import Derived.Test.YtgkgklgeobbmlaaLawK
namespace Go.Proofs.Ytgkgklgeobbmlaa
open Go.RowKit
set_option linter.unusedSimpArgs false
set_option linter.unusedVariables false

def cntZ (n : Nat) : List Int := (List.range n).map (fun (k : Nat) => (k : Int))
theorem cntZ_next (n : Nat) : cntZ (n + 1) = cntZ n ++ [(n : Int)] := by unfold cntZ; rw [List.range_succ, List.map_append]; rfl
theorem cntZ_len (n : Nat) : (cntZ n).length = n := by unfold cntZ; rw [List.length_map, List.length_range]
set_option maxRecDepth 100000 in
theorem count_S5 (n : Nat) (w : World) (hn : n ≤ 1048576) :
    Calls Try.prog 40 #[.int .i64 n] w (ResR en1 1 2 w (cntZ n)) := by
  go_enter Try.func40, Try.ntmps40
  go_wp2_with fail
  go_loopw [3, 4] (fun o iv wr => ∃ (k : Nat) (A : Option Addr) (cc : Nat), k ≤ n ∧ iv = .int .i64 k ∧ o = .slice A k cc ∧ wr.ownsRow w.heap.size 2 1 (.slice A k cc) k ((cntZ k).flatMap en1) ∧ Below w.heap.size w wr) (fun _ iv _ => n - (intOf iv).toNat)
  case atStart => exact ⟨0, _, _, Nat.zero_le _, rfl, rfl, World.ownsRow_lit w #[] 0 (Nat.le_refl _) (by simp [maxLen]) (by simp), (Below.refl _ _).alloc (Nat.le_refl _) _⟩
  case round =>
    obtain ⟨k, A, cc, hk, rfl, rfl, own, hbl⟩ := hrel
    have Ho := hid own
    have HB := hid hbl
    have hz := hbl.size
    by_cases hlt : k < n
    · have hd : decide ((k : Int) < (n : Int)) = true := by rw [decide_eq_true_iff]; omega
      have wk : IntKind.i64.wrap ((k : Int) + 1) = (k : Int) + 1 := IntWalk.i64_in _ (by omega)
      clear own hbl
      go_wp2_with (at_builtin; refine app_one (w := wr) 52 2 (.int .i64 0) 1 8 Try.underlying52 (by kernel_rfl) rfl (by decide) w.heap.size _ k _ Ho.out ?c1 (by decide) hz [.int .i64 k] _ _ rfl rfl rfl _ rfl ?c3 rfl (by intro u hu; simp at hu; subst hu; rfl) ?_)
      case c1 => omega
      case c3 => rfl
      intro A5 c5 w5 own5 hb5 hg5 hat5
      have HO5 := hid own5
      have HB5 := hid (HB.out.trans hb5)
      clear own5 hb5 hg5 hat5
      go_wp2_with fail
      refine ⟨⟨k + 1, A5, c5, by omega, by go_num, rfl, ?_, HB5.out⟩, by simp [intOf]; omega⟩
      rw [cntZ_next, List.flatMap_append]
      exact HO5.out
    · obtain rfl : k = n := by omega
      have hd : decide ((k : Int) < (k : Int)) = false := by rw [decide_eq_false_iff_not]; omega
      clear own hbl
      go_wp2_with fail
      go_ret
      exact ⟨A, cc, by rw [cntZ_len]; rfl, HB.out, by rw [cntZ_len]; exact Ho.out⟩
/-- The memory of laying: a board in a box, its pieces in a row of one's own. -/
structure NowB (w wr : World) (rb nb : Nat) (wi hi : Int) (ys : List Pc) (A : Option Addr) (c : Nat) : Prop where
  bel : Below w.heap.size w wr
  now : BoQ wr nb wi hi A ys.length c
  res : BoQ wr rb 0 0 none 0 0
  row : wr.ownsRow w.heap.size 98 5 (.slice A ys.length c) ys.length (ys.flatMap Pc.enc)
  ne : ∀ k, (Value.slice A ys.length c).ownBlock = some k → k ≠ nb ∧ k ≠ rb
  rn : rb ≠ nb
  nl : w.heap.size ≤ nb
  rl : w.heap.size ≤ rb
theorem NowB.below {w wr w1 : World} {rb nb : Nat} {wi hi : Int} {ys : List Pc} {A : Option Addr} {c : Nat} (h : NowB w wr rb nb wi hi ys A c) (hb : Below wr.heap.size wr w1) : NowB w w1 rb nb wi hi ys A c :=
  ⟨below_of h.bel h.bel.size hb, h.now.below hb, h.res.below hb, own_step h.row hb, h.ne, h.rn, h.nl, h.rl⟩
theorem NowB.store {w wr : World} {rb nb : Nat} {wi hi wi2 hi2 : Int} {ys zs : List Pc} {A A2 : Option Addr} {c c2 n2 : Nat} (h : NowB w wr rb nb wi hi ys A c) (hn : n2 = zs.length) (hrow : wr.ownsRow w.heap.size 98 5 (.slice A2 n2 c2) n2 (zs.flatMap Pc.enc)) (hne : ∀ k, (Value.slice A2 n2 c2).ownBlock = some k → k ≠ nb ∧ k ≠ rb) :
    NowB w (((wr.setCell ⟨nb, 0, none⟩ (.int .i8 wi2)).setCell ⟨nb, 1, none⟩ (.int .i8 hi2)).setCell ⟨nb, 2, none⟩ (.slice A2 n2 c2)) rb nb wi2 hi2 zs A2 c2 := by
  subst hn
  exact ⟨below_set3 h.bel h.nl, h.now.store3, ((h.res.other (fun e => h.rn e.symm)).other (fun e => h.rn e.symm)).other (fun e => h.rn e.symm), own_setE (own_setE (own_setE hrow (fun k hk => (hne k hk).1) _) (fun k hk => (hne k hk).1) _) (fun k hk => (hne k hk).1) _, hne, h.rn, h.nl, h.rl⟩
theorem way_at {w : World} {lb lo : Nat} {ws : List Wy} (hc : ∀ i p, ws[i]? = some p → ∀ j u, (Wy.enc p)[j]? = some u → w.cell? ⟨lb, lo + (i * 6 + j), none⟩ = some u) (hlt : lb < w.heap.size) {i : Nat} {p : Wy} (h : ws[i]? = some p) : WyO w lb (lo + i * 6) p :=
  ⟨hlt, hc i p h 0 _ rfl, hc i p h 1 _ rfl, hc i p h 2 _ rfl, hc i p h 3 _ rfl, hc i p h 4 _ rfl, hc i p h 5 _ rfl, hc i p h 4 _ rfl⟩
set_option maxRecDepth 100000 in
set_option maxHeartbeats 16000000 in
theorem all_LS (bb : Nat) (wi hi : Int) (a : Option Addr) (c : Nat) (xs : List Pc) (hs : xs.length ≤ 1048576) (hnc : a = none → c = 0) (ok : ∀ p ∈ xs, p.Ok) (hbo : bdOk wi hi xs = true) (al : Option Addr) (cl nl : Nat) (ws : List Wy) (hnl : nl = ws.length) (okw : ∀ p ∈ ws, p.Ok) (ao : Option Addr) (co no : Nat) (os : List Int) (hno : no = os.length) (hno2 : no ≤ 1048576) (hix : ∀ i ∈ os, 0 ≤ i ∧ i < (nl : Int))
    (w : World) (hb : BdA w bb wi hi a xs.length c) (h : SlA Pc.enc 5 w a xs) (hw : SlA Wy.enc 6 w al ws) (ho : SlA en1 1 w ao os) :
    Calls Try.prog 39 #[.pointer (some ⟨bb, 0, none⟩), .slice al nl cl, .slice ao no co] w (ResK w (allG wi hi xs (os.map (fun i => ws.getD i.toNat ⟨0, 0, 0, 0, 0, 0⟩)))) := by
  obtain ⟨hwi, hhi, hx200⟩ := bd_in hbo
  obtain ⟨W1, hW1⟩ : ∃ W, W = w.alloc (.cells #[.int .i8 0, .int .i8 0, .slice none 0 0] 32) := ⟨_, rfl⟩
  have B1 : Below w.heap.size w W1 := by rw [hW1]; exact (Below.refl _ _).alloc (Nat.le_refl _) _
  have HR := hid (show BoQ W1 w.heap.size 0 0 none 0 0 by rw [hW1]; exact boq_new _ _ _ _ _ _ _)
  have hz1 : w.heap.size < W1.heap.size := by rw [hW1]; simp
  have HK := hid (fun W (hW : Below w.heap.size w W) => (⟨hw.below hW, ho.below hW⟩ : SlA Wy.enc 6 W al ws ∧ SlA en1 1 W ao os))
  have HCp := hid (copy_S bb wi hi a c xs W1 hs (hb.below B1 hb.lt) (h.below B1) hnc)
  have HB1 := hid B1
  have HIx := hid hix
  have HNl := hid hnl
  have HNo := hid hno
  have HOw := hid okw
  obtain ⟨ms, hms⟩ : ∃ ms, os.map (fun i => ws.getD i.toNat ⟨0, 0, 0, 0, 0, 0⟩) = ms := ⟨_, rfl⟩
  have HMs := hid (fun (k : Nat) (i : Int) (hk : os[k]? = some i) => (show ∃ p, ws[i.toNat]? = some p ∧ ms.drop k = p :: ms.drop (k + 1) by
    have h1 := hix i (List.mem_of_getElem? hk)
    have hlt : i.toNat < ws.length := by omega
    have e1 : ws[i.toNat]? = some ws[i.toNat] := List.getElem?_eq_getElem hlt
    have hkl : k < ms.length := by rw [← hms, List.length_map]; exact (List.getElem?_eq_some_iff.1 hk).1
    refine ⟨_, e1, ?_⟩
    rw [List.drop_eq_getElem_cons hkl]
    congr 1
    have : ms[k]? = some (ws.getD i.toNat ⟨0, 0, 0, 0, 0, 0⟩) := by rw [← hms, List.getElem?_map, hk]; rfl
    rw [List.getElem?_eq_getElem hkl] at this
    injection this with this
    rw [this, List.getD_eq_getElem?_getD, e1]; rfl))
  have HMl := hid (show ms.drop no = [] from List.drop_eq_nil_of_le (by rw [← hms, List.length_map, hno]; exact Nat.le_refl _))
  rw [hms]
  obtain ⟨G, hG⟩ : ∃ G, allG wi hi xs ms = G := ⟨_, rfl⟩
  have HG := hid hG
  rw [hG]
  have HBo := hid hbo
  have HOk := hid ok
  clear hb h hw ho hms hG B1 hnl hno hix okw hbo ok
  obtain ⟨rb, hrb⟩ : ∃ rb, w.heap.size = rb := ⟨_, rfl⟩
  have HRb := hid hrb
  rw [hrb] at HR hz1
  go_enter Try.func39, Try.ntmps39
  go_upto_region 1 with fail
  rw [← hW1]
  (try rw [hrb])
  clear hW1 hrb
  go_wp2_with fail
  refine HCp.out.mono ?_
  rintro e w2 ⟨A2, c2, rfl, hb2, own2⟩
  obtain ⟨W3, hW3⟩ : ∃ W, W = w2.alloc (.cells #[.int .i8 wi, .int .i8 hi, .slice A2 xs.length c2] 32) := ⟨_, rfl⟩
  have hb3 : Below w2.heap.size w2 W3 := by rw [hW3]; exact (Below.refl _ _).alloc (Nat.le_refl _) _
  have hb12 := below_of HB1.out HB1.out.size hb2
  have HN3 : Hid (NowB w W3 rb w2.heap.size wi hi xs A2 c2) := hid ⟨below_of hb12 hb12.size hb3, by rw [hW3]; exact boq_new _ _ _ _ _ _ _, (HR.out.below hb2).below hb3, own_low (own_step own2 hb3) HB1.out.size, fun k hk => by
    have h1 := own2.lt k hk
    omega, by have := hb2.size; omega, hb12.size, by have := HRb.out; omega⟩
  go_upto_region 3 with fail
  rw [← hW3]
  obtain ⟨nb, hnb⟩ : ∃ nb, w2.heap.size = nb := ⟨_, rfl⟩
  rw [hnb] at HN3
  (try rw [hnb])
  clear hW3 hb3 hb12 hb2 own2 hnb HR HB1
  go_loopw [9] (fun iv wr => ∃ (k : Nat) (ys : List Pc) (A : Option Addr) (c' : Nat), k ≤ no ∧ iv = .int .i64 k ∧ NowB w wr rb nb wi hi ys A c' ∧ bdOk wi hi ys = true ∧ (∀ q ∈ ys, q.Ok) ∧ allG wi hi ys (ms.drop k) = G) (fun iv _ => no - (intOf iv).toNat)
  case atStart => exact ⟨0, xs, A2, c2, Nat.zero_le _, rfl, HN3.out, HBo.out, HOk.out, by rw [List.drop_zero]; exact HG.out⟩
  case round =>
    obtain ⟨k, ys, A, c', hk, rfl, hnow, hbd, hok, hgr⟩ := hrel
    have HNow := hid hnow
    have HBd := hid hbd
    have HOkY := hid hok
    have HGr := hid hgr
    obtain ⟨hw1, ho1⟩ := HK.out wr hnow.bel
    by_cases hlt : k < no
    · have hd : decide ((k : Int) < (no : Int)) = true := by rw [decide_eq_true_iff]; omega
      have hki : (k : Int) < (no : Int) := by omega
      have wk : IntKind.i64.wrap ((k : Int) + 1) = (k : Int) + 1 := IntWalk.i64_in _ (by omega)
      obtain ⟨ob, oo, rfl, hob, hoc⟩ := ho1.cells (by have := HNo.out; omega)
      have ek : os[k]? = some (os[k]'(by have := HNo.out; omega)) := List.getElem?_eq_getElem _
      obtain ⟨p, hp, hdr⟩ := HMs.out k _ ek
      have hci := hoc k _ ek 0 _ rfl
      have hi0 := HIx.out _ (List.mem_of_getElem? ek)
      generalize os[k]'_ = i at *
      obtain ⟨j, rfl⟩ : ∃ j : Nat, i = (j : Int) := ⟨i.toNat, by omega⟩
      rw [Int.toNat_natCast] at hp
      have hjl : j < ws.length := (List.getElem?_eq_some_iff.1 hp).1
      obtain ⟨lb, lo, rfl, hlb, hlc⟩ := hw1.cells (by omega)
      have hway := way_at hlc hlb hp
      have hc0 : wr.cell? ⟨ob, oo + k, none⟩ = some (.int .i64 (j : Int)) := by
        have : wr.cell? ⟨ob, oo + (k * 1 + 0), none⟩ = _ := hci
        rw [show oo + (k * 1 + 0) = oo + k by omega] at this
        exact this
      have hjn : (j : Int) < (nl : Int) := hi0.2
      have HWay := hid hway
      have okp := HOw.out p (List.mem_of_getElem? hp)
      have hsy := SlA.of_own Pc.enc_length hnow.row
      have HSy := hid hsy
      have hbda : BdA wr nb wi hi A ys.length c' := ⟨hnow.now.lt, hnow.now.c0, hnow.now.c1, hnow.now.c2⟩
      have HBda := hid hbda
      have HVw := hid (okO_LS nb lb (lo + j * 6) wi hi (by omega) A c' ys p okp wr hbda hsy hway)
      have hnly : A = none → c' = 0 := fun e => by have := hnow.row; subst e; exact own_nil_cap this
      have HNly := hid hnly
      have hl200 := (bd_in hbd).2.2
      have HDr := hid hdr
      obtain ⟨v, hv⟩ : ∃ v, wayB wi hi ys p = v := ⟨_, rfl⟩
      rw [hv] at HVw
      have HV := hid hv
      clear hnow hbd hok hgr ho1 hw1 hoc hlc hci ek hp hway hsy hbda hnly hdr okp hv hi0
      go_wp2_with fail
      refine HVw.out.mono ?_
      rintro e w4 ⟨rfl, hb4⟩
      have HNow4 := hid (HNow.out.below hb4)
      have HB4 := hid hb4
      clear hb4
      cases v with
      | false =>
        have HGG := hid (show G = ((0, 0, []), 1) by
          rw [← HGr.out, HDr.out, all_step, if_neg (by rw [HV.out]; decide)])
        obtain ⟨-, r0, r1, r2, rz⟩ := HNow4.out.res
        have z0 := rz 0
        have z1 := rz 1
        have z2 := rz 2
        clear rz
        go_wp2_with fail
        refine bodyPost_ret (v := .tuple #[.agg #[.int .i8 0, .int .i8 0, .slice none 0 0], .int .i64 1]) (by simp [results, Try.results39, go_sem, r0, r1, r2]) rfl ?_
        rw [HGG.out]
        exact ⟨none, 0, rfl, below_set3 HNow4.out.bel HNow4.out.rl, World.ownsRow_nil _ _ _ _⟩
      | true =>
        have HLy := hid (show Calls Try.prog 31 #[.pointer (some ⟨nb, 0, none⟩), .pointer (some ⟨lb, lo + j * 6, none⟩)] w4 (ResK w4 (lineG wi hi ys p)) from by
          obtain ⟨m, rfl⟩ : ∃ m : Nat, wi = (m : Int) := ⟨wi.toNat, by omega⟩
          obtain ⟨n, rfl⟩ : ∃ n : Nat, hi = (n : Int) := ⟨hi.toNat, by omega⟩
          exact layO_LS nb lb (lo + j * 6) m n (by omega) (by omega) A c' ys p w4 (by omega) (HBda.out.below HB4.out HBda.out.lt) (HSy.out.below HB4.out) HNly.out (HWay.out.below HB4.out) HV.out)
        have HLb := hid (fun h0 => lay_bd HBd.out HV.out h0)
        have HSt := hid (show G = if (lineG wi hi ys p).2 = 0 then allG wi hi (lineG wi hi ys p).1.2.2 (ms.drop (k + 1)) else ((0, 0, []), (lineG wi hi ys p).2) by
          rw [← HGr.out, HDr.out, all_step, if_pos HV.out])
        generalize lineG wi hi ys p = LG at *
        go_wp2_with fail
        refine HLy.out.mono ?_
        rintro e w5 ⟨A5, c5, rfl, hb5, own5⟩
        have HNow5 := hid (HNow4.out.below hb5)
        have hz5 : w4.heap.size ≤ w5.heap.size := hb5.size
        have hne5 : ∀ q, (Value.slice A5 LG.1.2.2.length c5).ownBlock = some q → q ≠ nb ∧ q ≠ rb := fun q hq => by
          have h1 := (own5.lt q hq).1
          have h2 := HNow4.out.now.lt
          have h3 := HNow4.out.res.lt
          exact ⟨by omega, by omega⟩
        obtain ⟨W6, hW6⟩ : ∃ W, W = w5.alloc (.cells #[.int .i8 LG.1.1, .int .i8 LG.1.2.1, .slice A5 LG.1.2.2.length c5] 32) := ⟨_, rfl⟩
        have hb6 : Below w5.heap.size w5 W6 := by rw [hW6]; exact (Below.refl _ _).alloc (Nat.le_refl _) _
        have hq6 : BoQ W6 w5.heap.size LG.1.1 LG.1.2.1 A5 LG.1.2.2.length c5 := by rw [hW6]; exact boq_new _ _ _ _ _ _ _
        have HNow6 := hid (HNow5.out.below hb6)
        have HQ6 := hid hq6
        have HO6 := hid (own_low (own_step own5 hb6) HNow4.out.bel.size)
        have HNe := hid hne5
        obtain ⟨d, hd2⟩ : ∃ d, LG.2 = d := ⟨_, rfl⟩
        rw [hd2] at HLb HSt
        (try rw [hd2])
        obtain ⟨-, n0, n1, n2, nz⟩ := HNow6.out.now
        have nz0 := nz 0
        have nz1 := nz 1
        have nz2 := nz 2
        obtain ⟨-, r0, r1, r2, rz⟩ := HNow6.out.res
        have z0 := rz 0
        have z1 := rz 1
        have z2 := rz 2
        obtain ⟨q, hq⟩ : ∃ q, w5.heap.size = q := ⟨_, rfl⟩
        have hqn : q ≠ nb := by have := HNow5.out.now.lt; omega
        rw [hq] at HQ6
        obtain ⟨-, q0, q1, q2, -⟩ := HQ6.out
        clear hb5 own5 hb6 hq6 hne5 hd2 nz rz hz5
        go_upto_region 9 with fail
        rw [← hW6]
        (try rw [hq])
        clear hW6 hq
        by_cases h0 : d = 0
        · subst h0
          obtain ⟨hbd2, hwi2, hhi2, hok2⟩ := HLb.out rfl
          have HSt2 := hid (show allG wi hi LG.1.2.2 (ms.drop (k + 1)) = G by rw [HSt.out, if_pos rfl])
          rw [hwi2] at q0
          rw [hhi2] at q1
          obtain ⟨zs, hzs⟩ : ∃ zs, LG.1.2.2 = zs := ⟨_, rfl⟩
          rw [hzs] at hbd2 hok2 HSt2 HO6 HNe q2
          have HOk2 := hid (show ∀ x ∈ zs, x.Ok from fun x hx => (hok2 x hx).elim (fun h => HOkY.out x h) (fun h => h))
          have HBd2 := hid hbd2
          clear hbd2 hok2 hwi2 hhi2 hzs HSt HLb
          go_wp2_with fail
          exact ⟨⟨k + 1, zs, A5, c5, by omega, by go_num, HNow6.out.store rfl HO6.out HNe.out, HBd2.out, HOk2.out, HSt2.out⟩, by simp [intOf]; omega⟩
        · have hne : (d != 0) = true := by simpa using h0
          have HGG := hid (show G = ((0, 0, []), d) by rw [HSt.out, if_neg h0])
          clear h0
          go_wp2_with fail
          refine bodyPost_ret (v := .tuple #[.agg #[.int .i8 0, .int .i8 0, .slice none 0 0], .int .i64 d]) (by simp [results, Try.results39, go_sem, r0, r1, r2]) rfl ?_
          rw [HGG.out]
          exact ⟨none, 0, rfl, below_set3 HNow6.out.bel HNow6.out.rl, World.ownsRow_nil _ _ _ _⟩
    · obtain rfl : k = no := by omega
      have hd : decide ((k : Int) < (k : Int)) = false := by rw [decide_eq_false_iff_not]; omega
      have HGG := hid (show G = ((wi, hi, ys), 0) by rw [← HGr.out, HMl.out]; rfl)
      obtain ⟨-, r0, r1, r2, rz⟩ := hnow.res
      have z0 := rz 0
      have z1 := rz 1
      have z2 := rz 2
      obtain ⟨-, n0, n1, n2, -⟩ := hnow.now
      have hrn := hnow.rn
      clear rz hnow hbd hok hgr hw1 ho1 hlt
      go_wp2_with fail
      refine bodyPost_ret (v := .tuple #[.agg #[.int .i8 wi, .int .i8 hi, .slice A ys.length c'], .int .i64 0]) (by simp [results, Try.results39, go_sem, r0, r1, r2]) rfl ?_
      rw [HGG.out]
      refine ⟨A, c', rfl, below_set3 HNow.out.bel HNow.out.rl, ?_⟩
      exact own_setE (own_setE (own_setE HNow.out.row (fun k hk => (HNow.out.ne k hk).2) _) (fun k hk => (HNow.out.ne k hk).2) _) (fun k hk => (HNow.out.ne k hk).2) _
end Go.Proofs.Ytgkgklgeobbmlaa
