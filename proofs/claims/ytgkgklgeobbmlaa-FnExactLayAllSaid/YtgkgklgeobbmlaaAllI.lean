/-
  Lines for several ways, the program's.
  Conditions: the fields are in their kinds' ranges.
-/
import Derived.Test.YtgkgklgeobbmlaaAllS
namespace Go.Proofs.Ytgkgklgeobbmlaa
open Go.RowKit
set_option linter.unusedSimpArgs false
set_option linter.unusedVariables false

/-- A function hands back a board, a number and a code. -/
def ResK3 (w : World) (R : (Int × Int × List Pc) × Int × Int) (e : Ending) (w' : World) : Prop :=
  ∃ A c, e = .returned (.tuple #[.agg #[.int .i8 R.1.1, .int .i8 R.1.2.1, .slice A R.1.2.2.length c], .int .i64 R.2.1, .int .i64 R.2.2]) ∧ Below w.heap.size w w' ∧ w'.ownsRow w.heap.size 98 5 (.slice A R.1.2.2.length c) R.1.2.2.length (R.1.2.2.flatMap Pc.enc)
def all3G (wi hi : Int) (xs : List Pc) (ws : List Wy) : (Int × Int × List Pc) × Int × Int :=
  if (allG wi hi xs ws).2 = 0 then ((allG wi hi xs ws).1, ((allG wi hi xs ws).1.2.2.length : Int) - xs.length, 0) else ((0, 0, []), 0, (allG wi hi xs ws).2)
theorem now_mk {w W wx : World} {rb q : Nat} {wi hi : Int} {xs : List Pc} {A : Option Addr} {c : Nat} (h2 : Below w.heap.size w W) (hx : Below W.heap.size W wx) (hq : BoQ wx q wi hi A xs.length c) (hr : BoQ W rb 0 0 none 0 0) (hrow : wx.ownsRow W.heap.size 98 5 (.slice A xs.length c) xs.length (xs.flatMap Pc.enc)) (hne : ∀ k, (Value.slice A xs.length c).ownBlock = some k → k ≠ q) (hql : W.heap.size ≤ q) (hrb : w.heap.size ≤ rb) : NowB w wx rb q wi hi xs A c :=
  ⟨below_of h2 h2.size hx, hq, hr.below hx, own_low hrow h2.size, fun k hk => ⟨hne k hk, by have := (hrow.lt k hk).1; have := hr.lt; omega⟩, by have := hr.lt; omega, Nat.le_trans h2.size hql, hrb⟩
theorem ne_a {w W : World} {e : TypeId} {v : Value} {n size q m c : Nat} {xs : List Value} {wi hi : Int} {A : Option Addr} (h : w.ownsRow W.heap.size e size v n xs) (hq : BoQ W q wi hi A m c) : ∀ k, v.ownBlock = some k → k ≠ q := fun k hk => by
  have h1 := (h.lt k hk).1
  have h2 := hq.lt
  omega
theorem ne_b {w : World} {b : Nat} {e : TypeId} {v : Value} {n size : Nat} {xs : List Value} (h : w.ownsRow b e size v n xs) : ∀ k, v.ownBlock = some k → k ≠ w.heap.size := fun k hk => by
  have h1 := (h.lt k hk).2
  omega
set_option maxRecDepth 100000 in
set_option maxHeartbeats 16000000 in
theorem layAll_I (wi hi : Int) (wl : -128 ≤ wi) (wu : wi ≤ 127) (hl : -128 ≤ hi) (hu : hi ≤ 127) (a : Option Addr) (c : Nat) (xs : List Pc) (hs : xs.length ≤ 1048576) (hnc : a = none → c = 0) (ok : ∀ p ∈ xs, p.Ok) (hbo : bdOk wi hi xs = true) (al : Option Addr) (cl nl : Nat) (ws : List Wy) (hnl : nl = ws.length) (hnl2 : nl ≤ 1048576) (okw : ∀ p ∈ ws, p.Ok)
    (w : World) (h : SlA Pc.enc 5 w a xs) (hw : SlA Wy.enc 6 w al ws) :
    Calls Try.prog 42 #[.agg #[.int .i8 wi, .int .i8 hi, .slice a xs.length c], .slice al nl cl] w (ResK3 w (all3G wi hi xs ws)) := by
  obtain ⟨hwi, hhi, hx200⟩ := bd_in hbo
  obtain ⟨W1, hW1⟩ : ∃ W, W = w.alloc (.cells #[.int .i8 wi, .int .i8 hi, .slice a xs.length c] 32) := ⟨_, rfl⟩
  have B1 : Below w.heap.size w W1 := by rw [hW1]; exact (Below.refl _ _).alloc (Nat.le_refl _) _
  have bd1 : BdA W1 w.heap.size wi hi a xs.length c := by rw [hW1]; exact bd_box _ _ _ _ _ _ _
  obtain ⟨W2, hW2⟩ : ∃ W, W = W1.alloc (.cells #[.int .i8 0, .int .i8 0, .slice none 0 0] 32) := ⟨_, rfl⟩
  have B2 : Below W1.heap.size W1 W2 := by rw [hW2]; exact (Below.refl _ _).alloc (Nat.le_refl _) _
  have HR := hid (show BoQ W2 W1.heap.size 0 0 none 0 0 by rw [hW2]; exact boq_new _ _ _ _ _ _ _)
  have hs1 : W1.heap.size = w.heap.size + 1 := by rw [hW1]; simp
  have hb2 := below_of B1 B1.size B2
  have HB2 := hid hb2
  have hbd2 := bd1.below B2 bd1.lt
  have HK := hid (fun W (hW : Below W2.heap.size W2 W) => (⟨hbd2.below hW hbd2.lt, (h.below hb2).below hW, (hw.below hb2).below hW⟩ : BdA W w.heap.size wi hi a xs.length c ∧ SlA Pc.enc 5 W a xs ∧ SlA Wy.enc 6 W al ws))
  rw [hs1] at HR
  rw [hW1] at hW2
  have HNl := hid hnl
  have HOw := hid okw
  have HBo := hid hbo
  have HOk := hid ok
  obtain ⟨g0, g1, g2⟩ : W2.cell? ⟨w.heap.size, 0, none⟩ = some (.int .i8 wi) ∧ W2.cell? ⟨w.heap.size, 1, none⟩ = some (.int .i8 hi) ∧ W2.cell? ⟨w.heap.size, 2, none⟩ = some (.slice a xs.length c) := ⟨hbd2.c0, hbd2.c1, hbd2.c2⟩
  have HMs := hid (fun (k : Nat) (hk : k < nl) => (show ∃ p, ws[k]? = some p ∧ ws.drop k = p :: ws.drop (k + 1) from ⟨ws[k]'(by omega), List.getElem?_eq_getElem _, List.drop_eq_getElem_cons _⟩))
  have HMl := hid (show ws.drop nl = [] from List.drop_eq_nil_of_le (by omega))
  obtain ⟨G, hG⟩ : ∃ G, allG wi hi xs ws = G := ⟨_, rfl⟩
  have HG := hid hG
  have HG3 := hid (show all3G wi hi xs ws = (if G.2 = 0 then (G.1, (G.1.2.2.length : Int) - xs.length, 0) else ((0, 0, []), 0, G.2) : (Int × Int × List Pc) × Int × Int) by unfold all3G; rw [hG])
  generalize all3G wi hi xs ws = R3 at *
  obtain ⟨bb, hbb⟩ : ∃ bb, w.heap.size = bb := ⟨_, rfl⟩
  obtain ⟨rb, hrb⟩ : ∃ rb, bb + 1 = rb := ⟨_, rfl⟩
  have HBb := hid hbb
  have HRb := hid (show w.heap.size ≤ rb by omega)
  rw [hbb] at HR HK g0 g1 g2
  rw [hrb] at HR
  have HWi := hid (fun W (hW : Below W2.heap.size W2 W) A2 n2 c2 => with_I bb wi hi a xs.length c A2 n2 c2 W (HK.out W hW).1)
  have HCl := hid (fun W (hW : Below W2.heap.size W2 W) => clone_Pc_L a c xs W (HK.out W hW).2.1 hnc hs)
  have HSz := hid (show rb < W2.heap.size from HR.out.lt)
  clear h hw hnl okw hbo ok hG B1 B2 bd1 hs1 hb2 hbd2 hW1
  go_enter Try.func42, Try.ntmps42
  go_upto_region 1 with fail
  rw [← hW2]
  (try rw [hbb])
  (try rw [hrb])
  clear hW2 hbb hrb
  have hb0 : Below W2.heap.size W2 W2.drew := (Below.refl _ _).drew
  go_cut [7, 8] from 13 to 19 (fun s7 s8 wx => ∃ (nb : Nat) (A : Option Addr) (c' : Nat), s7 = .pointer (some ⟨nb, 0, none⟩) ∧ s8 = .int .i64 (xs.length : Int) ∧ NowB w wx rb nb wi hi xs A c' ∧ Below W2.heap.size W2 wx ∧ W2.heap.size ≤ nb)
  case first =>
    have NN : W2.drew.cell? ⟨bb, 2, none⟩ = some (.slice a xs.length c) := g2
    have XV := hb0
    have XVd : Below W2.heap.size W2 (W2.alloc (.cells #[.int .i8 0, .int .i8 0, .slice none 0 0] 32)).drew := (((Below.refl W2.heap.size W2).alloc (Nat.le_refl _) (.cells #[.int .i8 0, .int .i8 0, .slice none 0 0] 32)).drew)
    have QB := boq_new W2.drew 0 0 none 0 0 32
    have hid1 := hid (show BoQ (W2.alloc (.cells #[.int .i8 0, .int .i8 0, .slice none 0 0] 32)).drew W2.heap.size 0 0 none 0 0 from boq_new W2.drew 0 0 none 0 0 32)
    have QL : W2.heap.size ≤ W2.heap.size := Nat.le_refl _
    go_region_held3 (fun w' => w'.cell? ⟨bb, 2, none⟩ = some (.slice a xs.length c))
      (first | with_reducible assumption | with_reducible exact NN | with_reducible exact cell_on (XV.alloc XV.size _) g2 | with_reducible exact cell_on XVd g2 | with_reducible exact cell_on XC g2 | with_reducible exact cell_on (XC.alloc XC.size _) g2 | with_reducible exact cell_on XBf g2 | with_reducible exact cell_on (below_set3 XBf QL) g2 | fail)
      (first
        | (go_at_call 81; refine (HCl.out _ ?hW).mono ?_; (case hW => first | with_reducible exact XV | with_reducible exact XV.alloc XV.size _ | with_reducible exact XVd); rintro e w5 ⟨A5, c5, rfl, b5, own5⟩; (first | with_reducible (have XC := below_of XV XV.size b5; have XS := XV.size) | with_reducible (have XC := below_of (XV.alloc XV.size (.cells #[.int .i8 0, .int .i8 0, .slice none 0 0] 32)) (XV.alloc XV.size (.cells #[.int .i8 0, .int .i8 0, .slice none 0 0] 32)).size b5; have XS := (XV.alloc XV.size (.cells #[.int .i8 0, .int .i8 0, .slice none 0 0] 32)).size) | with_reducible (have XC := below_of XVd XVd.size b5; have XS := XVd.size)); have QO := own_low own5 XS; (first | with_reducible (have QN := ne_a own5 QB; have QB := QB.below b5) | with_reducible (have QN := ne_a own5 hid1.out; have QB := hid1.out.below b5) | (have QB := boq_new w5 0 0 none 0 0 32; have QL := XC.size; have QN := ne_b own5)); have XV := XC)
        | (go_at_call 75; refine (HWi.out _ ?hW _ _ _).mono ?_; (case hW => first | with_reducible exact XV | with_reducible exact XV.alloc XV.size _); rintro e w6 ⟨rfl, b6⟩; (first | with_reducible (have XC := below_of XV XV.size b6; have XS := XV.size) | with_reducible (have XC := below_of (XV.alloc XV.size (.cells #[.int .i8 0, .int .i8 0, .slice none 0 0] 32)) (XV.alloc XV.size (.cells #[.int .i8 0, .int .i8 0, .slice none 0 0] 32)).size b6; have XS := (XV.alloc XV.size (.cells #[.int .i8 0, .int .i8 0, .slice none 0 0] 32)).size) | with_reducible (have XC := below_of XVd XVd.size b6; have XS := XVd.size)); (first | with_reducible have QO := own_step QO b6 | with_reducible have QO := own_step (own_step QO ((Below.refl _ _).alloc (Nat.le_refl _) (.cells #[.int .i8 0, .int .i8 0, .slice none 0 0] 32))) b6); (first | with_reducible (have QB := QB.below b6; have XBf := XC; have QOf := QO) | (have QB := boq_new w6 0 0 none 0 0 32; have QL := XC.size; have QN := ne_b QO; have XBf := XC.alloc XC.size (.cells #[.int .i8 0, .int .i8 0, .slice none 0 0] 32); have QOf := own_step QO ((Below.refl _ _).alloc (Nat.le_refl _) (.cells #[.int .i8 0, .int .i8 0, .slice none 0 0] 32)))); obtain ⟨-, r0, r1, r2, rz⟩ := id QB; have z0 := rz 0; have z1 := rz 1; have z2 := rz 2))
    all_goals (
      go_wp2_with fail
      go_meet
      first
        | exact ⟨_, _, _, rfl, rfl, now_mk HB2.out (below_set3 XBf QL) QB.store3 HR.out (own_setE (own_setE (own_setE QOf QN _) QN _) QN _) QN QL HRb.out, below_set3 XBf QL, QL⟩
        | exact ⟨_, _, _, rfl, rfl, now_mk HB2.out (XC.alloc XC.size _) (boq_new _ _ _ _ _ _ _) HR.out (own_step QO ((Below.refl _ _).alloc (Nat.le_refl _) _)) QN QL HRb.out, XC.alloc XC.size _, QL⟩
        | fail)
  case rest =>
    obtain ⟨nb, A0, c0, rfl, rfl, hnow0, hbw0, hnb0⟩ := hcut
    have HN0 := hid hnow0
    have HW0 := hid hbw0
    have HNb0 := hid hnb0
    obtain ⟨W3, hW3⟩ : ∃ W, W = wc := ⟨_, rfl⟩
    subst hW3
    clear hnow0 hbw0 hnb0 g0 g1 g2 hb0
    go_wp2_with fail
    go_loopw [22] (fun iv wr => ∃ (k : Nat) (ys : List Pc) (A : Option Addr) (c' : Nat), k ≤ nl ∧ iv = .int .i64 k ∧ NowB w wr rb nb wi hi ys A c' ∧ Below W2.heap.size W2 wr ∧ bdOk wi hi ys = true ∧ (∀ q ∈ ys, q.Ok) ∧ allG wi hi ys (ws.drop k) = G) (fun iv _ => nl - (intOf iv).toNat)
    case atStart => exact ⟨0, xs, A0, c0, Nat.zero_le _, rfl, HN0.out, HW0.out, HBo.out, HOk.out, by rw [List.drop_zero]; exact HG.out⟩
    case round =>
      obtain ⟨k, ys, A, c', hk, rfl, hnow, hbel, hbd, hok, hgr⟩ := hrel
      have HNow := hid hnow
      have HBel := hid hbel
      have HBd := hid hbd
      have HOkY := hid hok
      have HGr := hid hgr
      obtain ⟨-, -, hw1⟩ := HK.out wr hbel
      by_cases hlt : k < nl
      · have hd : decide ((k : Int) < (nl : Int)) = true := by rw [decide_eq_true_iff]; omega
        have hki : (k : Int) < (nl : Int) := by omega
        have wk : IntKind.i64.wrap ((k : Int) + 1) = (k : Int) + 1 := IntWalk.i64_in _ (by omega)
        obtain ⟨p, hp, hdr⟩ := HMs.out k hlt
        obtain ⟨lb, lo, rfl, hlb, hlc⟩ := hw1.cells (by have := (List.getElem?_eq_some_iff.1 hp).1; omega)
        have okp := HOw.out p (List.mem_of_getElem? hp)
        have f0 : wr.cell? ⟨lb, lo + k * 6, none⟩ = some (.int .i8 p.fx) := hlc k _ hp 0 _ rfl
        have f1 : wr.cell? ⟨lb, lo + k * 6 + 1, none⟩ = some (.int .i8 p.fy) := hlc k _ hp 1 _ rfl
        have f2 : wr.cell? ⟨lb, lo + k * 6 + 2, none⟩ = some (.int .i8 p.sd) := hlc k _ hp 2 _ rfl
        have f3 : wr.cell? ⟨lb, lo + k * 6 + 3, none⟩ = some (.int .i8 p.tx) := hlc k _ hp 3 _ rfl
        have f4 : wr.cell? ⟨lb, lo + k * 6 + 4, none⟩ = some (.int .i8 p.ty) := hlc k _ hp 4 _ rfl
        have f5 : wr.cell? ⟨lb, lo + k * 6 + 5, none⟩ = some (.int .i8 p.ou) := hlc k _ hp 5 _ rfl
        have hsy := SlA.of_own Pc.enc_length hnow.row
        have hnly : A = none → c' = 0 := fun e => by have := hnow.row; subst e; exact own_nil_cap this
        have hl200 := (bd_in hbd).2.2
        obtain ⟨V, hV⟩ : ∃ V, V = wr.alloc (.cells #[.int .i8 p.fx, .int .i8 p.fy, .int .i8 p.sd, .int .i8 p.tx, .int .i8 p.ty, .int .i8 p.ou] 38) := ⟨_, rfl⟩
        have hbV : Below wr.heap.size wr V := by rw [hV]; exact (Below.refl _ _).alloc (Nat.le_refl _) _
        have v0 : V.cell? ⟨wr.heap.size, 0, none⟩ = some (.int .i8 p.fx) := by rw [hV]; simp [go_sem]
        have v1 : V.cell? ⟨wr.heap.size, 1, none⟩ = some (.int .i8 p.fy) := by rw [hV]; simp [go_sem]
        have v2 : V.cell? ⟨wr.heap.size, 2, none⟩ = some (.int .i8 p.sd) := by rw [hV]; simp [go_sem]
        have v3 : V.cell? ⟨wr.heap.size, 3, none⟩ = some (.int .i8 p.tx) := by rw [hV]; simp [go_sem]
        have v4 : V.cell? ⟨wr.heap.size, 4, none⟩ = some (.int .i8 p.ty) := by rw [hV]; simp [go_sem]
        have v5 : V.cell? ⟨wr.heap.size, 5, none⟩ = some (.int .i8 p.ou) := by rw [hV]; simp [go_sem]
        have HNow4 := hid (HNow.out.below hbV)
        have HBel4 := hid (below_of hbel hbel.size hbV)
        obtain ⟨-, n0, n1, n2, -⟩ := HNow4.out.now
        have HLy := hid (LayLine_I V wi hi wl wu hl hu A c' ys (hsy.below hbV) hnly hok (by omega) p okp)
        unfold Wy.enc at HLy
        have HLb := hid (fun h0 => line_bd (p := p) hbd h0)
        have HSt := hid (show G = if (LayLineG wi hi ys p).2 = 0 then allG wi hi (LayLineG wi hi ys p).1.2.2 (ws.drop (k + 1)) else ((0, 0, []), (LayLineG wi hi ys p).2) by
          rw [← hgr, hdr, all_line hbd])
        generalize LayLineG wi hi ys p = LG at *
        clear hnow hbel hbd hok hgr hw1 hlc hp hdr okp hsy hnly hbV
        go_upto_region 5 with fail
        rw [← hV]
        obtain ⟨vb, hvb⟩ : ∃ vb, wr.heap.size = vb := ⟨_, rfl⟩
        rw [hvb] at v0 v1 v2 v3 v4 v5
        (try rw [hvb])
        clear hV hvb f0 f1 f2 f3 f4 f5
        go_wp2_with fail
        refine HLy.out.mono ?_
        rintro e w5 ⟨A5, c5, rfl, hb5, own5⟩
        have HNow5 := hid (HNow4.out.below hb5)
        have HBel5 := hid (below_of HBel4.out HBel4.out.size hb5)
        have hne5 : ∀ q, (Value.slice A5 LG.1.2.2.length c5).ownBlock = some q → q ≠ nb ∧ q ≠ rb := fun q hq => by
          have h1 := (own5.lt q hq).1
          have h2 := HNow4.out.now.lt
          have h3 := HNow4.out.res.lt
          exact ⟨by omega, by omega⟩
        obtain ⟨W6, hW6⟩ : ∃ W, W = w5.alloc (.cells #[.int .i8 LG.1.1, .int .i8 LG.1.2.1, .slice A5 LG.1.2.2.length c5] 32) := ⟨_, rfl⟩
        have hb6 : Below w5.heap.size w5 W6 := by rw [hW6]; exact (Below.refl _ _).alloc (Nat.le_refl _) _
        have hq6 : BoQ W6 w5.heap.size LG.1.1 LG.1.2.1 A5 LG.1.2.2.length c5 := by rw [hW6]; exact boq_new _ _ _ _ _ _ _
        have HNow6 := hid (HNow5.out.below hb6)
        have HBel6 := hid (below_of HBel5.out HBel5.out.size hb6)
        have HQ6 := hid hq6
        have HO6 := hid (own_low (own_step own5 hb6) HNow4.out.bel.size)
        have HNe := hid hne5
        obtain ⟨d, hd2⟩ : ∃ d, LG.2 = d := ⟨_, rfl⟩
        rw [hd2] at HLb HSt
        (try rw [hd2])
        obtain ⟨-, m0, m1, m2, mz⟩ := HNow6.out.now
        have nz0 := mz 0
        have nz1 := mz 1
        have nz2 := mz 2
        obtain ⟨-, r0, r1, r2, rz⟩ := HNow6.out.res
        have z0 := rz 0
        have z1 := rz 1
        have z2 := rz 2
        obtain ⟨q, hq⟩ : ∃ q, w5.heap.size = q := ⟨_, rfl⟩
        have hqn : q ≠ nb := by have := HNow5.out.now.lt; omega
        rw [hq] at HQ6
        obtain ⟨-, q0, q1, q2, -⟩ := HQ6.out
        have HNb := hid (show W2.heap.size ≤ nb from HNb0.out)
        clear hb5 own5 hb6 hq6 hne5 hd2 mz rz n0 n1 n2 v0 v1 v2 v3 v4 v5
        go_upto_region 6 with fail
        rw [← hW6]
        (try rw [hq])
        clear hW6 hq
        by_cases h0 : d = 0
        · subst h0
          obtain ⟨hbd2, hwi2, hhi2, hok2⟩ := HLb.out rfl
          have HSt2 := hid (show allG wi hi LG.1.2.2 (ws.drop (k + 1)) = G by rw [HSt.out, if_pos rfl])
          rw [hwi2] at q0
          rw [hhi2] at q1
          obtain ⟨zs, hzs⟩ : ∃ zs, LG.1.2.2 = zs := ⟨_, rfl⟩
          rw [hzs] at hbd2 hok2 HSt2 HO6 HNe q2
          have HOk2 := hid (show ∀ x ∈ zs, x.Ok from fun x hx => (hok2 x hx).elim (fun h => HOkY.out x h) (fun h => h))
          have HBd2 := hid hbd2
          clear hbd2 hok2 hwi2 hhi2 hzs HSt HLb
          go_wp2_with fail
          exact ⟨⟨k + 1, zs, A5, c5, by omega, by go_num, HNow6.out.store rfl HO6.out HNe.out, below_set3 HBel6.out HNb.out, HBd2.out, HOk2.out, HSt2.out⟩, by simp [intOf]; omega⟩
        · have hne : (d != 0) = true := by simpa using h0
          have HGG := hid (show R3 = ((0, 0, []), 0, d) by
            have h1 : G = ((0, 0, []), d) := by rw [HSt.out, if_neg h0]
            rw [HG3.out, h1, if_neg h0])
          clear h0
          go_wp2_with fail
          refine bodyPost_ret (v := .tuple #[.agg #[.int .i8 0, .int .i8 0, .slice none 0 0], .int .i64 0, .int .i64 d]) (by simp [results, Try.results42, go_sem, r0, r1, r2]) rfl ?_
          rw [HGG.out]
          exact ⟨none, 0, rfl, below_set3 HNow6.out.bel HNow6.out.rl, World.ownsRow_nil _ _ _ _⟩
      · obtain rfl : k = nl := by omega
        have hd : decide ((k : Int) < (k : Int)) = false := by rw [decide_eq_false_iff_not]; omega
        have HGG := hid (show R3 = ((wi, hi, ys), (ys.length : Int) - xs.length, 0) by
          have h1 : G = ((wi, hi, ys), 0) := by rw [← HGr.out, HMl.out]; rfl
          rw [HG3.out, h1]; rfl)
        obtain ⟨-, r0, r1, r2, rz⟩ := hnow.res
        have z0 := rz 0
        have z1 := rz 1
        have z2 := rz 2
        obtain ⟨-, n0, n1, n2, -⟩ := hnow.now
        have hrn := hnow.rn
        have hl200 := (bd_in hbd).2.2
        have wsb : IntKind.i64.wrap ((ys.length : Int) - (xs.length : Int)) = (ys.length : Int) - (xs.length : Int) := IntWalk.i64_in _ (by omega)
        have r0' : wr.drew.cell? ⟨rb, 0, none⟩ = some (.int .i8 0) := r0
        have r1' : wr.drew.cell? ⟨rb, 1, none⟩ = some (.int .i8 0) := r1
        have r2' : wr.drew.cell? ⟨rb, 2, none⟩ = some (.slice none 0 0) := r2
        clear rz hnow hbel hbd hok hgr hw1 hlt
        go_wp2_with fail
        go_region
        go_wp2_with fail
        refine bodyPost_ret (v := .tuple #[.agg #[.int .i8 wi, .int .i8 hi, .slice A ys.length c'], .int .i64 ((ys.length : Int) - xs.length), .int .i64 0]) (by simp [results, Try.results42, go_sem, r0, r1, r2]) rfl ?_
        rw [HGG.out]
        refine ⟨A, c', rfl, ?_, ?_⟩
        · first | exact (below_set3 HNow.out.bel HNow.out.rl).drew | exact below_set3 HNow.out.bel.drew HNow.out.rl
        · first | exact (own_setE (own_setE (own_setE HNow.out.row (fun k hk => (HNow.out.ne k hk).2) _) (fun k hk => (HNow.out.ne k hk).2) _) (fun k hk => (HNow.out.ne k hk).2) _).drew | exact own_setE (own_setE (own_setE HNow.out.row.drew (fun k hk => (HNow.out.ne k hk).2) _) (fun k hk => (HNow.out.ne k hk).2) _) (fun k hk => (HNow.out.ne k hk).2) _
end Go.Proofs.Ytgkgklgeobbmlaa
