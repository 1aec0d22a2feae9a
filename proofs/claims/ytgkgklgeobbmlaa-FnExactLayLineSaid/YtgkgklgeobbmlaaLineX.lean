/-
  A line that is laid, the reference's.
  Conditions: the board is a right one, the way is a right one.
-/
import Derived.Test.YtgkgklgeobbmlaaLineW
namespace Go.Proofs.Ytgkgklgeobbmlaa
open Go.RowKit
set_option linter.unusedSimpArgs false
set_option linter.unusedVariables false

theorem way_parts {wi hi : Int} {xs : List Pc} {p : Wy} (h : wayB wi hi xs p = true) : freeG wi hi xs p.fx p.fy = true ∧ freeG wi hi xs p.tx p.ty = true ∧ (0 ≤ p.sd ∧ p.sd ≤ 3) ∧ (0 ≤ p.ou ∧ p.ou ≤ 3) ∧ ((⟨p.fx, p.fy⟩ : Ce) = ⟨p.tx, p.ty⟩ → p.sd ≠ p.ou) := by
  unfold wayB at h
  simp only [Bool.and_eq_true, Bool.not_eq_true', inB_it] at h
  obtain ⟨⟨⟨⟨h1, h2⟩, h3⟩, h4⟩, h5⟩ := h
  refine ⟨h1, h2, h3, h4, fun he hs => ?_⟩
  rw [Ce.mk.injEq] at he
  rw [decide_eq_true he, decide_eq_true hs] at h5
  cases h5
/-- What is right of a shortest line. -/
theorem short_line {wi hi : Nat} {xs : List Pc} {p : Wy} (hw : wi ≤ 24) (hh : hi ≤ 24) (hv : wayB wi hi xs p = true) (h0 : (shortG wi hi xs p).2 = 0) : LineOk (shortG wi hi xs p).1 p.sd p.ou ∧ (∀ q ∈ (shortG wi hi xs p).1, (0 ≤ q.x ∧ q.x ≤ 23) ∧ (0 ≤ q.y ∧ q.y ≤ 23)) ∧ (shortG wi hi xs p).1.length ≤ 577 := by
  obtain ⟨hf, ht, hsd, hou, hone⟩ := way_parts hv
  unfold shortG at h0 ⊢
  by_cases hd : farD wi hi xs p.fx p.fy p.tx p.ty < 0
  · rw [if_pos hd] at h0
    exact absurd (show (6 : Int) = 0 from h0) (by decide)
  · rw [if_neg hd] at h0 ⊢
    cases he : endsB p (pathW wi hi xs p) with
    | true =>
      rw [he, if_pos rfl] at h0
      exact absurd (show (4 : Int) = 0 from h0) (by decide)
    | false =>
      rw [if_neg (by simp)]
      have hway := path_way hf (by omega)
      unfold endsB at he
      rw [Bool.or_eq_false_iff] at he
      refine ⟨way_line hway hsd hou hone (fun hm => ?_) (fun hm => ?_), fun q hq => ?_, ?_⟩
      · rw [isC_mem.2 hm] at he
        cases he.1
      · rw [isC_mem.2 hm] at he
        cases he.2
      · have := free_in (hway.fr q hq)
        omega
      · have h1 := hway.len
        have h2 := (far_ok hf).lt p.tx p.ty
        have h3 := nodup_board (wi := wi) (hi := hi) (far_ok hf).nd (fun e he => free_in ((far_ok hf).fr e he))
        have h4 : wi * hi ≤ 24 * 24 := Nat.mul_le_mul hw hh
        have h5 : farD wi hi xs p.fx p.fy p.tx p.ty < 576 := by
          show (bfsQ (freeG wi hi xs) ⟨p.fx, p.fy⟩ ((wi : Int).toNat * (hi : Int).toNat)).2 p.tx p.ty < 576
          omega
        show (pathW wi hi xs p).length ≤ 577
        rw [h1]
        omega
set_option maxRecDepth 100000 in
set_option maxHeartbeats 8000000 in
theorem lay_LS (bb wb : Nat) (wi hi : Nat) (hw : 1 ≤ wi ∧ wi ≤ 24) (hh : 1 ≤ hi ∧ hi ≤ 24) (a : Option Addr) (c : Nat) (xs : List Pc) (p : Wy) (w : World) (hs : xs.length ≤ 1048576) (hb : BdA w bb wi hi a xs.length c) (h : SlA Pc.enc 5 w a xs) (hnc : a = none → c = 0) (hway : WyA w wb p) (hv : wayB wi hi xs p = true) :
    Calls Try.prog 31 #[.pointer (some ⟨bb, 0, none⟩), .pointer (some ⟨wb, 0, none⟩)] w (ResK w (lineG wi hi xs p)) := by
  obtain ⟨hf, ht, hsd, hou, hone⟩ := way_parts hv
  have HLine := hid (fun h0 => short_line hw.2 hh.2 hv h0)
  obtain ⟨W1, hW1⟩ : ∃ W, W = w.alloc (.cells #[.int .i8 0, .int .i8 0, .slice none 0 0] 32) := ⟨_, rfl⟩
  have B1 : Below w.heap.size w W1 := by rw [hW1]; exact (Below.refl _ _).alloc (Nat.le_refl _) _
  have HR := hid (show BoQ W1 w.heap.size 0 0 none 0 0 by rw [hW1]; exact boq_new _ _ _ _ _ _ _)
  have hw1 : w.heap.size < W1.heap.size := by rw [hW1]; simp
  have HSh := hid (shortest_S bb wb wi hi hw hh a c xs p W1 (hb.below B1 hb.lt) (h.below B1) (hway.below B1) hf ht hsd hou)
  have HKeep := hid (fun W (hW : Below W1.heap.size W1 W) => (⟨(hb.below B1 hb.lt).below hW (hb.below B1 hb.lt).lt, (h.below B1).below hW, (hway.below B1).below hW⟩ : BdA W bb wi hi a xs.length c ∧ SlA Pc.enc 5 W a xs ∧ WyA W wb p))
  have HB1 := hid B1
  have HG := hid (show lineG wi hi xs p = if (shortG wi hi xs p).2 = 0 then layG wi hi xs (shortG wi hi xs p).1 p else ((0, 0, []), (shortG wi hi xs p).2) from rfl)
  have ws1 : IntKind.i64.wrap p.sd = p.sd := IntWalk.i64_in _ (by omega)
  have ws2 : IntKind.i64.wrap p.ou = p.ou := IntWalk.i64_in _ (by omega)
  generalize lineG wi hi xs p = G at *
  obtain ⟨P, hP⟩ : ∃ P, (shortG wi hi xs p).1 = P := ⟨_, rfl⟩
  obtain ⟨cd, hcd⟩ : ∃ cd, (shortG wi hi xs p).2 = cd := ⟨_, rfl⟩
  rw [hP, hcd] at HSh HG
  rw [hcd, hP] at HLine
  clear hb h hway hv hf ht hone B1 hP hcd
  obtain ⟨rb, hrb⟩ : ∃ rb, w.heap.size = rb := ⟨_, rfl⟩
  have HRb := hid hrb
  rw [hrb] at HR hw1 HB1
  go_enter Try.func31, Try.ntmps31
  go_upto_region 1 with fail
  rw [← hW1]
  (try rw [hrb])
  clear hW1 hrb
  go_wp2_with fail
  refine HSh.out.mono ?_
  rintro e w2 ⟨AP, cP, rfl, hb2, own2⟩
  have HR2 := hid (HR.out.below hb2)
  have HB2 := hid (below_of HB1.out (show rb ≤ W1.heap.size by omega) hb2)
  have HW2 := hid hb2
  have HSP := hid (SlA.of_own Ce.enc_length own2)
  obtain ⟨n, hn⟩ : ∃ n, P.length = n := ⟨_, rfl⟩
  rw [hn]
  have HNn := hid hn
  clear hb2 own2 hn
  by_cases hc0 : cd = 0
  · subst hc0
    obtain ⟨hline, hin, hlen⟩ := HLine.out rfl
    have hn577 : n ≤ 577 := by rw [← HNn.out]; exact hlen
    have hn0 : 0 < n := by rw [← HNn.out]; exact hline.n
    obtain ⟨hbd2, hsl2, hwy2⟩ := HKeep.out w2 HW2.out
    have HPs := hid (fun W (hW : Below w2.heap.size w2 W) => pieces_LS AP cP n P p.sd p.ou W hline HNn.out.symm (by omega) (HSP.out.below hW) hin)
    have y2 := hwy2.c2
    have y5 := hwy2.c5
    have HGG := hid (show G = laidG wi hi xs (lineL P p.sd p.ou) by
      rw [HG.out, if_pos rfl]
      unfold layG laidG
      rw [lineL_len])
    clear hline hin hlen hbd2 hsl2 hwy2
    go_wp2_with fail
    go_cut [8, 9] from 20 to 34 (fun s8 s9 wx => ∃ A8 c8, s8 = .slice A8 n c8 ∧ Below w2.heap.size w2 wx ∧ wx.ownsRow w2.heap.size 98 5 (.slice A8 n c8) n ((lineL P p.sd p.ou).flatMap Pc.enc))
    case first =>
      go_region_held3 (fun w' => w'.cell? ⟨wb, 2, none⟩ = some (.int .i8 p.sd) ∧ w'.cell? ⟨wb, 5, none⟩ = some (.int .i8 p.ou))
        (first | with_reducible assumption | with_reducible exact ⟨y2, y5⟩ | with_reducible exact ⟨cell_on ((Below.refl w2.heap.size w2).drew) y2, cell_on ((Below.refl w2.heap.size w2).drew) y5⟩ | with_reducible exact ⟨cell_on hb34 y2, cell_on hb34 y5⟩ | (trace_state; sorry))
        ((go_at_call 56; refine (HPs.out _ ((Below.refl w2.heap.size w2).drew)).mono ?_; rintro e3 w3 ⟨A8, c8, rfl, hb3, own3⟩; have hb34 := below_of ((Below.refl w2.heap.size w2).drew) ((Below.refl w2.heap.size w2).drew).size hb3))
      all_goals (
        go_wp2_with fail
        go_meet
        exact ⟨A8, c8, rfl, hb34, own_low own3 (by simp)⟩)
    case rest =>
      obtain ⟨A8, c8, rfl, hbx, ownx⟩ := hcut
      have HRx := hid (HR2.out.below hbx)
      have HBx := hid (below_of HB2.out (Nat.le_of_lt HR2.out.lt) hbx)
      have hb2x := below_of HW2.out HW2.out.size hbx
      obtain ⟨hbdx, hslx, -⟩ := HKeep.out wc hb2x
      have HLd := hid (laid_LS bb wi hi a c xs (A8) c8 n (lineL P p.sd p.ou) wc hs hbdx hslx hnc (by rw [lineL_len, HNn.out]) hn0 (by omega) (SlA.of_own Pc.enc_length (by rw [lineL_len, HNn.out]; exact ownx)))
      rw [← HGG.out] at HLd
      clear hbx ownx hb2x hbdx hslx y2 y5
      go_wp2_with fail
      refine HLd.out.mono ?_
      rintro e5 w5 ⟨A9, c9, rfl, hb5, own5⟩
      obtain ⟨-, r0, r1, r2, rz⟩ := HRx.out.below hb5
      have z0 := rz 0
      have z1 := rz 1
      have z2 := rz 2
      have HB5 := hid (below_of HBx.out (Nat.le_of_lt HRx.out.lt) hb5)
      have HO5 := hid own5
      have hrx := HRx.out.lt
      clear rz hb5 own5
      go_wp2_with fail
      refine bodyPost_ret (v := .tuple #[.agg #[.int .i8 G.1.1, .int .i8 G.1.2.1, .slice A9 G.1.2.2.length c9], .int .i64 G.2]) (by simp [results, Try.results31, go_sem, r0, r1, r2]) rfl ⟨A9, c9, rfl, ?_, ?_⟩
      · rw [HRb.out]
        exact ((HB5.out.setCell (p := ⟨rb, 0, none⟩) (Nat.le_refl rb) _).setCell (p := ⟨rb, 1, none⟩) (Nat.le_refl rb) _).setCell (p := ⟨rb, 2, none⟩) (Nat.le_refl rb) _
      · have hnb : ∀ k, (Value.slice A9 G.1.2.2.length c9).ownBlock = some k → k ≠ rb := fun k hk => by have := (HO5.out.lt k hk).1; omega
        exact own_setE (own_setE (own_setE (own_low HO5.out (by have := HRb.out; omega)) hnb _) hnb _) hnb _
  · have HGG := hid (show G = ((0, 0, []), cd) by rw [HG.out, if_neg hc0])
    have hne : (cd != 0) = true := by simpa using hc0
    obtain ⟨-, r0, r1, r2, rz⟩ := HR2.out
    have z0 := rz 0
    have z1 := rz 1
    have z2 := rz 2
    clear hc0 rz
    go_wp2_with fail
    refine bodyPost_ret (v := .tuple #[.agg #[.int .i8 0, .int .i8 0, .slice none 0 0], .int .i64 cd]) (by simp [results, Try.results31, go_sem, r0, r1, r2]) rfl ?_
    rw [HGG.out]
    refine ⟨none, 0, rfl, ?_, World.ownsRow_nil _ _ _ _⟩
    rw [HRb.out]
    exact ((HB2.out.setCell (p := ⟨rb, 0, none⟩) (Nat.le_refl rb) _).setCell (p := ⟨rb, 1, none⟩) (Nat.le_refl rb) _).setCell (p := ⟨rb, 2, none⟩) (Nat.le_refl rb) _
end Go.Proofs.Ytgkgklgeobbmlaa
