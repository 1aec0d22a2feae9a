/-
  LayLine, the reference's.
  A line that is laid, the reference's.
  Conditions: the fields are in their kinds' ranges. the board is a right one, the way is a right one.
-/
import Derived.Test.YtgkgklgeobbmlaaLineV
import Derived.Test.YtgkgklgeobbmlaaCopy
namespace Go.Proofs.Ytgkgklgeobbmlaa
open Go.RowKit
set_option linter.unusedSimpArgs false
set_option linter.unusedVariables false

/-- A board's box of one's own. -/
structure BoQ (w : World) (b : Nat) (wi hi : Int) (A : Option Addr) (n c : Nat) : Prop where
  lt : b < w.heap.size
  c0 : w.cell? ⟨b, 0, none⟩ = some (.int .i8 wi)
  c1 : w.cell? ⟨b, 1, none⟩ = some (.int .i8 hi)
  c2 : w.cell? ⟨b, 2, none⟩ = some (.slice A n c)
  fz : ∀ j, w.frozen? ⟨b, j, none⟩ = false
theorem BoQ.below {w w1 : World} {b : Nat} {wi hi : Int} {A : Option Addr} {n c : Nat} (h : BoQ w b wi hi A n c) (hb : Below w.heap.size w w1) : BoQ w1 b wi hi A n c :=
  ⟨Nat.lt_of_lt_of_le h.lt hb.size, cell_on hb h.c0, cell_on hb h.c1, cell_on hb h.c2, fun j => (hb.frozen (p := ⟨b, j, none⟩) h.lt).trans (h.fz j)⟩
theorem BoQ.kept {w w1 : World} {b : Nat} {wi hi : Int} {A : Option Addr} {n c : Nat} {r : Option Nat} (h : BoQ w b wi hi A n c) (hg : w.grownBy w1 r) (hne : some b ≠ r) : BoQ w1 b wi hi A n c :=
  ⟨Nat.lt_of_lt_of_le h.lt hg.size, (World.cell?_of_block (a := ⟨b, 0, none⟩) (hg.block b h.lt hne)).trans h.c0, (World.cell?_of_block (a := ⟨b, 1, none⟩) (hg.block b h.lt hne)).trans h.c1, (World.cell?_of_block (a := ⟨b, 2, none⟩) (hg.block b h.lt hne)).trans h.c2, fun j => (World.frozen?_of_block (a := ⟨b, j, none⟩) (hg.block b h.lt hne)).trans (h.fz j)⟩
theorem BoQ.store {w : World} {b : Nat} {wi hi : Int} {A B : Option Addr} {n c m d : Nat} (h : BoQ w b wi hi A n c) : BoQ (w.setCell ⟨b, 2, none⟩ (.slice B m d)) b wi hi B m d :=
  ⟨by rw [World.size_setCell]; exact h.lt, by rw [World.cell?_setCell_other _ _ _ _ (by simp)]; exact h.c0, by rw [World.cell?_setCell_other _ _ _ _ (by simp)]; exact h.c1, World.cell?_setCell_same _ _ _ (by rw [h.c2]), fun j => by rw [World.frozen?_setCell]; exact h.fz j⟩
theorem BoQ.other {w : World} {b b' j : Nat} {wi hi : Int} {A : Option Addr} {n c : Nat} {v : Value} (h : BoQ w b wi hi A n c) (hn : b' ≠ b) : BoQ (w.setCell ⟨b', j, none⟩ v) b wi hi A n c :=
  h.kept (setCell_grownE w b' j v) (fun e => hn (by injection e with e; exact e.symm))
theorem boq_new (w : World) (wi hi : Int) (A : Option Addr) (n c : Nat) (T : TypeId) : BoQ (w.alloc (.cells #[.int .i8 wi, .int .i8 hi, .slice A n c] T)) w.heap.size wi hi A n c :=
  ⟨by simp, by simp [go_sem], by simp [go_sem], by simp [go_sem], fun j => by simp [go_sem]⟩
theorem flat_at {Q : List Pc} : ∀ {j : Nat} {u : Value}, (Q.flatMap Pc.enc)[j]? = some u → ∃ p, Q[j / 5]? = some p ∧ (Pc.enc p)[j % 5]? = some u := by
  induction Q with
  | nil => intro j u h; simp at h
  | cons p Q ih =>
    intro j u h
    rw [List.flatMap_cons] at h
    by_cases hj : j < 5
    · rw [List.getElem?_append_left (by show j < 5; exact hj)] at h
      exact ⟨p, by rw [Nat.div_eq_of_lt hj]; rfl, by rw [Nat.mod_eq_of_lt hj]; exact h⟩
    · rw [List.getElem?_append_right (by show 5 ≤ j; omega)] at h
      obtain ⟨q, h1, h2⟩ := ih h
      have e1 : (Pc.enc p).length = 5 := rfl
      rw [e1] at h1 h2
      refine ⟨q, ?_, ?_⟩
      · rw [show j / 5 = (j - 5) / 5 + 1 by omega, List.getElem?_cons_succ]; exact h1
      · rw [show j % 5 = (j - 5) % 5 by omega]; exact h2
theorem flat_cell {w : World} {Q : List Pc} {b o : Nat} (hc : ∀ i p, Q[i]? = some p → ∀ j u, (Pc.enc p)[j]? = some u → w.cell? ⟨b, o + (i * 5 + j), none⟩ = some u) {j : Nat} {u : Value} (h : (Q.flatMap Pc.enc)[j]? = some u) : w.cell? ⟨b, o + j, none⟩ = some u := by
  obtain ⟨p, h1, h2⟩ := flat_at h
  have := hc _ p h1 _ u h2
  rw [show j / 5 * 5 + j % 5 = j by omega] at this
  exact this
def laidG (wi hi : Int) (xs Q : List Pc) : (Int × Int × List Pc) × Int := if 200 < xs.length + Q.length ∨ 120 < Q.length then ((0, 0, []), 3) else ((wi, hi, xs ++ Q), 0)
def ResK (w : World) (R : (Int × Int × List Pc) × Int) (e : Ending) (w' : World) : Prop :=
  ∃ A c, e = .returned (.tuple #[.agg #[.int .i8 R.1.1, .int .i8 R.1.2.1, .slice A R.1.2.2.length c], .int .i64 R.2]) ∧ Below w.heap.size w w' ∧ w'.ownsRow w.heap.size 98 5 (.slice A R.1.2.2.length c) R.1.2.2.length (R.1.2.2.flatMap Pc.enc)
set_option maxRecDepth 100000 in
set_option maxHeartbeats 8000000 in
theorem laid_LS (bb : Nat) (wi hi : Int) (a : Option Addr) (c : Nat) (xs : List Pc) (AQ : Option Addr) (cQ n : Nat) (Q : List Pc) (w : World) (hs : xs.length ≤ 1048576) (hb : BdA w bb wi hi a xs.length c) (h : SlA Pc.enc 5 w a xs) (hnc : a = none → c = 0) (hn : n = Q.length) (hn0 : 0 < n) (hn2 : n ≤ 1000) (hq : SlA Pc.enc 5 w AQ Q) :
    Calls Try.prog 58 #[.pointer (some ⟨bb, 0, none⟩), .slice AQ n cQ] w (ResK w (laidG wi hi xs Q)) := by
  obtain ⟨W1, hW1⟩ : ∃ W, W = w.alloc (.cells #[.int .i8 0, .int .i8 0, .slice none 0 0] 32) := ⟨_, rfl⟩
  have B1 : Below w.heap.size w W1 := by rw [hW1]; exact (Below.refl _ _).alloc (Nat.le_refl _) _
  have HR := hid (show BoQ W1 w.heap.size 0 0 none 0 0 by rw [hW1]; exact boq_new _ _ _ _ _ _ _)
  have hb1 := hb.below B1 hb.lt
  obtain ⟨-, g0, g1, g2⟩ := hb1
  have HCp := hid (copy_S bb wi hi a c xs W1 hs (hb.below B1 hb.lt) (h.below B1) hnc)
  have HQ := hid (hq.below B1)
  have HB1 := hid B1
  have hw1 : w.heap.size < W1.heap.size := by rw [hW1]; simp
  have wx : IntKind.i64.wrap ((xs.length : Int) + (n : Int)) = (xs.length : Int) + (n : Int) := IntWalk.i64_in _ (by omega)
  have HG := hid (show laidG wi hi xs Q = if 200 < xs.length + n ∨ 120 < n then ((0, 0, []), 3) else ((wi, hi, xs ++ Q), 0) by unfold laidG; rw [hn])
  have HN := hid hn
  clear hb h hq B1 hn
  generalize laidG wi hi xs Q = R at *
  go_enter Try.func58, Try.ntmps58
  go_upto_region 1 with fail
  rw [← hW1]
  clear hW1
  obtain ⟨rb, hrb⟩ : ∃ rb, w.heap.size = rb := ⟨_, rfl⟩
  rw [hrb] at HR hw1 HB1 ⊢
  by_cases hl : 200 < xs.length + n ∨ 120 < n
  · have HRR := hid (show R = ((0, 0, []), 3) by rw [HG.out, if_pos hl])
    obtain ⟨-, r0, r1, r2, rz⟩ := HR.out
    have z0 := rz 0
    have z1 := rz 1
    have z2 := rz 2
    have hs : decide ((200 : Int) < (xs.length : Int) + (n : Int)) = true ∨ (decide ((200 : Int) < (xs.length : Int) + (n : Int)) = false ∧ decide ((120 : Int) < (n : Int)) = true ∧ decide (120 < n) = true) := by
      by_cases h2 : 200 < xs.length + n
      · exact .inl (by rw [decide_eq_true_iff]; omega)
      · exact .inr ⟨by rw [decide_eq_false_iff_not]; omega, by rw [decide_eq_true_iff]; omega, by rw [decide_eq_true_iff]; omega⟩
    clear hl rz
    rcases hs with hs | ⟨hs, hs2, hs3⟩
    all_goals (
      go_wp2_with fail
      refine bodyPost_ret (v := .tuple #[.agg #[.int .i8 0, .int .i8 0, .slice none 0 0], .int .i64 3]) (by simp [results, Try.results58, go_sem, r0, r1, r2]) rfl ?_
      rw [HRR.out]
      refine ⟨none, 0, rfl, ?_, World.ownsRow_nil _ _ _ _⟩
      rw [hrb]
      exact ((HB1.out.setCell (p := ⟨rb, 0, none⟩) (Nat.le_refl rb) _).setCell (p := ⟨rb, 1, none⟩) (Nat.le_refl rb) _).setCell (p := ⟨rb, 2, none⟩) (Nat.le_refl rb) _)
  · have HRR := hid (show R = ((wi, hi, xs ++ Q), 0) by rw [HG.out, if_neg hl])
    have hs : decide ((200 : Int) < (xs.length : Int) + (n : Int)) = false := by rw [decide_eq_false_iff_not]; omega
    have hs2 : decide ((120 : Int) < (n : Int)) = false := by rw [decide_eq_false_iff_not]; omega
    have hs3 : decide (120 < n) = false := by rw [decide_eq_false_iff_not]; omega
    have hxn : xs.length ≤ 200 := by omega
    clear hl
    go_wp2_with fail
    refine HCp.out.mono ?_
    rintro e w2 ⟨A2, c2, rfl, hb2, own2⟩
    obtain ⟨W3, hW3⟩ : ∃ W, W = w2.alloc (.cells #[.int .i8 wi, .int .i8 hi, .slice A2 xs.length c2] 32) := ⟨_, rfl⟩
    have hb3 : Below w2.heap.size w2 W3 := by rw [hW3]; exact (Below.refl _ _).alloc (Nat.le_refl _) _
    have ht := boq_new w2 wi hi A2 xs.length c2 32
    rw [← hW3] at ht
    have hb23 := below_of hb2 hb2.size hb3
    have HR3 := hid (HR.out.below hb23)
    have HB3 := hid (below_of HB1.out (show rb ≤ W1.heap.size by omega) hb23)
    have HO3 := hid (own_step own2 hb3)
    have HT3 := hid ht
    have HQ3 := hid (HQ.out.below hb23)
    have hw2 : W1.heap.size ≤ w2.heap.size := hb2.size
    have hw3 : w2.heap.size < W3.heap.size := by rw [hW3]; simp
    have hlt2 : ∀ k, (Value.slice A2 xs.length c2).ownBlock = some k → W1.heap.size ≤ k ∧ k < w2.heap.size := fun k hk => by have := own2.lt k hk; omega
    obtain ⟨tb, htb⟩ : ∃ tb, w2.heap.size = tb := ⟨_, rfl⟩
    rw [htb] at HT3 hw2 hw3 hlt2
    have HTb := hid htb
    clear htb
    have hntr : tb ≠ rb := by omega
    obtain ⟨qb, qo, rfl, hqb, hqc⟩ := HQ3.out.cells (by rw [← HN.out]; exact hn0)
    have HQc := hid hqc
    have hflen : ∀ T : List Pc, (T.flatMap Pc.enc).length = T.length * 5 := fun T => by
      induction T with
      | nil => rfl
      | cons c T ih => rw [List.flatMap_cons, List.length_append, ih, List.length_cons]; show 5 + T.length * 5 = _; omega
    have HFl := hid (hflen Q)
    have HL2 := hid hlt2
    have hO3l := HO3.out
    rw [hW3] at hO3l
    have HO3l := hid hO3l
    have HW3 := hid hW3
    have hqx : 5 * n ≤ 5000 := by omega
    clear hO3l hW3
    clear ht hb3 hb2 own2 hb23 hqc hflen hlt2 g0 g1 g2
    go_wp2_with (at_builtin; refine app_many rfl _ _ 30 rfl W1.heap.size 98 (.agg Pc.z.enc.toArray) 5 5 Try.underlying30 (by kernel_rfl) rfl (by decide) _ xs.length (xs.flatMap Pc.enc) rfl HO3l.out (some ⟨qb, qo, none⟩) n cQ (Q.flatMap Pc.enc) rfl ?zlen ?zcells ?zone ?znil ?zbytes (by decide) ?zbase ?_)
    case zlen => rw [HFl.out, HN.out]
    case zcells => exact fun _ => ⟨qb, qo, rfl, fun j u hu => by rw [← HW3.out]; exact flat_cell HQc.out hu⟩
    case zone =>
      intro u hu
      obtain ⟨c1, _, h1⟩ := List.mem_flatMap.1 hu
      simp [Pc.enc] at h1
      rcases h1 with rfl | rfl | rfl | rfl | rfl <;> rfl
    case znil => exact fun h => absurd h (by omega)
    case zbytes => omega
    case zbase => rw [← HW3.out]; omega
    intro v4 w4 own4 hg4 hat4
    rw [← HW3.out] at hg4
    (try rw [← HW3.out] at hat4)
    have htb9 := HTb.out
    obtain ⟨A4, c4, rfl⟩ := own_slice own4
    (try rw [HTb.out])
    have hT4 := HT3.out.kept hg4 (fun e => by have := (HL2.out tb e.symm).2; omega)
    have hR4 := HR3.out.kept hg4 (fun e => by have := (HL2.out rb e.symm).1; omega)
    have hB4 : Below W1.heap.size W3 w4 := below_own (Below.refl _ _) HO3.out (by omega) hg4
    have HB4 := hid (HB3.out.trans (hB4.mono (show rb ≤ W1.heap.size by omega)))
    have hn4 : ∀ k, (Value.slice A4 (xs.length + n) c4).ownBlock = some k → k ≠ tb ∧ k ≠ rb := fun k hk => by
      have h1 := own4.lt k hk
      refine ⟨?_, by omega⟩
      rcases hat4 with h2 | h2
      · have := HL2.out k (by rw [← h2]; exact hk)
        omega
      · rw [hk] at h2
        injection h2 with h2
        omega
    have HN4 := hid hn4
    have HO4 := hid own4
    obtain ⟨-, t0, t1, t2, tz⟩ := hT4
    obtain ⟨-, r0, r1, r2, rz⟩ := hR4
    have z0 := rz 0
    have z1 := rz 1
    have z2 := rz 2
    have y2 := tz 2
    clear htb9 hg4 hat4 own4 hB4 hn4 rz tz
    go_wp2_with fail
    refine bodyPost_ret (v := .tuple #[.agg #[.int .i8 wi, .int .i8 hi, .slice A4 (xs.length + n) c4], .int .i64 0]) (by simp [results, Try.results58, go_sem, r0, r1, r2, t0, t1, t2, hntr, hntr.symm]) rfl ?_
    rw [HRR.out]
    have hln : (xs ++ Q).length = xs.length + n := by rw [List.length_append, HN.out]
    refine ⟨A4, c4, by show _ = Ending.returned (.tuple #[.agg #[.int .i8 wi, .int .i8 hi, .slice A4 (xs ++ Q).length c4], .int .i64 0]); rw [hln], ?_, ?_⟩
    · rw [hrb]
      exact (((HB4.out.setCell (p := ⟨tb, 2, none⟩) (by show rb ≤ tb; omega) _).setCell (p := ⟨rb, 0, none⟩) (Nat.le_refl rb) _).setCell (p := ⟨rb, 1, none⟩) (Nat.le_refl rb) _).setCell (p := ⟨rb, 2, none⟩) (Nat.le_refl rb) _
    · show World.ownsRow _ _ _ _ (.slice A4 (xs ++ Q).length c4) (xs ++ Q).length ((xs ++ Q).flatMap Pc.enc)
      rw [hln, List.flatMap_append]
      have h0 := own_low HO4.out (show w.heap.size ≤ W1.heap.size by omega)
      exact own_setE (own_setE (own_setE (own_setE h0 (fun k hk => (HN4.out k hk).1) _) (fun k hk => (HN4.out k hk).2) _) (fun k hk => (HN4.out k hk).2) _) (fun k hk => (HN4.out k hk).2) _
theorem way_parts {wi hi : Int} {xs : List Pc} {p : Wy} (h : wayB wi hi xs p = true) : freeG wi hi xs p.fx p.fy = true ∧ freeG wi hi xs p.tx p.ty = true ∧ (0 ≤ p.sd ∧ p.sd ≤ 3) ∧ (0 ≤ p.ou ∧ p.ou ≤ 3) ∧ ((⟨p.fx, p.fy⟩ : Ce) = ⟨p.tx, p.ty⟩ → p.sd ≠ p.ou) := by
  unfold wayB at h
  simp only [Bool.and_eq_true, Bool.not_eq_true', inB_it] at h
  obtain ⟨⟨⟨⟨h1, h2⟩, h3⟩, h4⟩, h5⟩ := h
  refine ⟨h1, h2, h3, h4, fun he hs => ?_⟩
  rw [Ce.mk.injEq] at he
  rw [decide_eq_true he, decide_eq_true hs] at h5
  cases h5
/-- What is right of a shortest line. -/
theorem short_line {wi hi : Nat} {xs : List Pc} {p : Wy} (hw : wi ≤ 24) (hh : hi ≤ 24) (hv : wayB wi hi xs p = true) (h0 : (shortG wi hi xs p).2 = 0) : LineOk (shortG wi hi xs p).1 p.sd p.ou ∧ (∀ q ∈ (shortG wi hi xs p).1, (0 ≤ q.x ∧ q.x ≤ 23) ∧ (0 ≤ q.y ∧ q.y ≤ 23)) ∧ (shortG wi hi xs p).1.length ≤ 577 := by
  obtain ⟨hf, ht, hsd, hou, hone⟩ := way_parts hv
  unfold shortG at h0 ⊢
  by_cases hd : farD wi hi xs p.fx p.fy p.tx p.ty < 0
  · rw [if_pos hd] at h0
    exact absurd (show (6 : Int) = 0 from h0) (by decide)
  · rw [if_neg hd] at h0 ⊢
    cases he : endsB p (pathW wi hi xs p) with
    | true =>
      rw [he, if_pos rfl] at h0
      exact absurd (show (4 : Int) = 0 from h0) (by decide)
    | false =>
      rw [if_neg (by simp)]
      have hway := path_way hf (by omega)
      unfold endsB at he
      rw [Bool.or_eq_false_iff] at he
      refine ⟨way_line hway hsd hou hone (fun hm => ?_) (fun hm => ?_), fun q hq => ?_, ?_⟩
      · rw [isC_mem.2 hm] at he
        cases he.1
      · rw [isC_mem.2 hm] at he
        cases he.2
      · have := free_in (hway.fr q hq)
        omega
      · have h1 := hway.len
        have h2 := (far_ok hf).lt p.tx p.ty
        have h3 := nodup_board (wi := wi) (hi := hi) (far_ok hf).nd (fun e he => free_in ((far_ok hf).fr e he))
        have h4 : wi * hi ≤ 24 * 24 := Nat.mul_le_mul hw hh
        have h5 : farD wi hi xs p.fx p.fy p.tx p.ty < 576 := by
          show (bfsQ (freeG wi hi xs) ⟨p.fx, p.fy⟩ ((wi : Int).toNat * (hi : Int).toNat)).2 p.tx p.ty < 576
          omega
        show (pathW wi hi xs p).length ≤ 577
        rw [h1]
        omega
set_option maxRecDepth 100000 in
set_option maxHeartbeats 8000000 in
theorem layO_LS (bb wb wo : Nat) (wi hi : Nat) (hw : 1 ≤ wi ∧ wi ≤ 24) (hh : 1 ≤ hi ∧ hi ≤ 24) (a : Option Addr) (c : Nat) (xs : List Pc) (p : Wy) (w : World) (hs : xs.length ≤ 1048576) (hb : BdA w bb wi hi a xs.length c) (h : SlA Pc.enc 5 w a xs) (hnc : a = none → c = 0) (hway : WyO w wb wo p) (hv : wayB wi hi xs p = true) :
    Calls Try.prog 31 #[.pointer (some ⟨bb, 0, none⟩), .pointer (some ⟨wb, wo, none⟩)] w (ResK w (lineG wi hi xs p)) := by
  obtain ⟨hf, ht, hsd, hou, hone⟩ := way_parts hv
  have HLine := hid (fun h0 => short_line hw.2 hh.2 hv h0)
  obtain ⟨W1, hW1⟩ : ∃ W, W = w.alloc (.cells #[.int .i8 0, .int .i8 0, .slice none 0 0] 32) := ⟨_, rfl⟩
  have B1 : Below w.heap.size w W1 := by rw [hW1]; exact (Below.refl _ _).alloc (Nat.le_refl _) _
  have HR := hid (show BoQ W1 w.heap.size 0 0 none 0 0 by rw [hW1]; exact boq_new _ _ _ _ _ _ _)
  have hw1 : w.heap.size < W1.heap.size := by rw [hW1]; simp
  have HSh := hid (shortestO_S bb wb wo wi hi hw hh a c xs p W1 (hb.below B1 hb.lt) (h.below B1) (hway.below B1) hf ht hsd hou)
  have HKeep := hid (fun W (hW : Below W1.heap.size W1 W) => (⟨(hb.below B1 hb.lt).below hW (hb.below B1 hb.lt).lt, (h.below B1).below hW, (hway.below B1).below hW⟩ : BdA W bb wi hi a xs.length c ∧ SlA Pc.enc 5 W a xs ∧ WyO W wb wo p))
  have HB1 := hid B1
  have HG := hid (show lineG wi hi xs p = if (shortG wi hi xs p).2 = 0 then layG wi hi xs (shortG wi hi xs p).1 p else ((0, 0, []), (shortG wi hi xs p).2) from rfl)
  have ws1 : IntKind.i64.wrap p.sd = p.sd := IntWalk.i64_in _ (by omega)
  have ws2 : IntKind.i64.wrap p.ou = p.ou := IntWalk.i64_in _ (by omega)
  generalize lineG wi hi xs p = G at *
  obtain ⟨P, hP⟩ : ∃ P, (shortG wi hi xs p).1 = P := ⟨_, rfl⟩
  obtain ⟨cd, hcd⟩ : ∃ cd, (shortG wi hi xs p).2 = cd := ⟨_, rfl⟩
  rw [hP, hcd] at HSh HG
  rw [hcd, hP] at HLine
  clear hb h hway hv hf ht hone B1 hP hcd
  obtain ⟨rb, hrb⟩ : ∃ rb, w.heap.size = rb := ⟨_, rfl⟩
  have HRb := hid hrb
  rw [hrb] at HR hw1 HB1
  go_enter Try.func31, Try.ntmps31
  go_upto_region 1 with fail
  rw [← hW1]
  (try rw [hrb])
  clear hW1 hrb
  go_wp2_with fail
  refine HSh.out.mono ?_
  rintro e w2 ⟨AP, cP, rfl, hb2, own2⟩
  have HR2 := hid (HR.out.below hb2)
  have HB2 := hid (below_of HB1.out (show rb ≤ W1.heap.size by omega) hb2)
  have HW2 := hid hb2
  have HSP := hid (SlA.of_own Ce.enc_length own2)
  obtain ⟨n, hn⟩ : ∃ n, P.length = n := ⟨_, rfl⟩
  rw [hn]
  have HNn := hid hn
  clear hb2 own2 hn
  by_cases hc0 : cd = 0
  · subst hc0
    obtain ⟨hline, hin, hlen⟩ := HLine.out rfl
    have hn577 : n ≤ 577 := by rw [← HNn.out]; exact hlen
    have hn0 : 0 < n := by rw [← HNn.out]; exact hline.n
    obtain ⟨hbd2, hsl2, hwy2⟩ := HKeep.out w2 HW2.out
    have HPs := hid (fun W (hW : Below w2.heap.size w2 W) => pieces_LS AP cP n P p.sd p.ou W hline HNn.out.symm (by omega) (HSP.out.below hW) hin)
    have y2 := hwy2.c2
    have y5 := hwy2.c5
    have HGG := hid (show G = laidG wi hi xs (lineL P p.sd p.ou) by
      rw [HG.out, if_pos rfl]
      unfold layG laidG
      rw [lineL_len])
    clear hline hin hlen hbd2 hsl2 hwy2
    go_wp2_with fail
    go_cut [8, 9] from 20 to 34 (fun s8 s9 wx => ∃ A8 c8, s8 = .slice A8 n c8 ∧ Below w2.heap.size w2 wx ∧ wx.ownsRow w2.heap.size 98 5 (.slice A8 n c8) n ((lineL P p.sd p.ou).flatMap Pc.enc))
    case first =>
      go_region_held3 (fun w' => w'.cell? ⟨wb, wo + 2, none⟩ = some (.int .i8 p.sd) ∧ w'.cell? ⟨wb, wo + 5, none⟩ = some (.int .i8 p.ou))
        (first | with_reducible assumption | with_reducible exact ⟨y2, y5⟩ | with_reducible exact ⟨cell_on ((Below.refl w2.heap.size w2).drew) y2, cell_on ((Below.refl w2.heap.size w2).drew) y5⟩ | with_reducible exact ⟨cell_on hb34 y2, cell_on hb34 y5⟩ | fail)
        ((go_at_call 56; refine (HPs.out _ ((Below.refl w2.heap.size w2).drew)).mono ?_; rintro e3 w3 ⟨A8, c8, rfl, hb3, own3⟩; have hb34 := below_of ((Below.refl w2.heap.size w2).drew) ((Below.refl w2.heap.size w2).drew).size hb3))
      all_goals (
        go_wp2_with fail
        go_meet
        exact ⟨A8, c8, rfl, hb34, own_low own3 (by simp)⟩)
    case rest =>
      obtain ⟨A8, c8, rfl, hbx, ownx⟩ := hcut
      have HRx := hid (HR2.out.below hbx)
      have HBx := hid (below_of HB2.out (Nat.le_of_lt HR2.out.lt) hbx)
      have hb2x := below_of HW2.out HW2.out.size hbx
      obtain ⟨hbdx, hslx, -⟩ := HKeep.out wc hb2x
      have HLd := hid (laid_LS bb wi hi a c xs (A8) c8 n (lineL P p.sd p.ou) wc hs hbdx hslx hnc (by rw [lineL_len, HNn.out]) hn0 (by omega) (SlA.of_own Pc.enc_length (by rw [lineL_len, HNn.out]; exact ownx)))
      rw [← HGG.out] at HLd
      clear hbx ownx hb2x hbdx hslx y2 y5
      go_wp2_with fail
      refine HLd.out.mono ?_
      rintro e5 w5 ⟨A9, c9, rfl, hb5, own5⟩
      obtain ⟨-, r0, r1, r2, rz⟩ := HRx.out.below hb5
      have z0 := rz 0
      have z1 := rz 1
      have z2 := rz 2
      have HB5 := hid (below_of HBx.out (Nat.le_of_lt HRx.out.lt) hb5)
      have HO5 := hid own5
      have hrx := HRx.out.lt
      clear rz hb5 own5
      go_wp2_with fail
      refine bodyPost_ret (v := .tuple #[.agg #[.int .i8 G.1.1, .int .i8 G.1.2.1, .slice A9 G.1.2.2.length c9], .int .i64 G.2]) (by simp [results, Try.results31, go_sem, r0, r1, r2]) rfl ⟨A9, c9, rfl, ?_, ?_⟩
      · rw [HRb.out]
        exact ((HB5.out.setCell (p := ⟨rb, 0, none⟩) (Nat.le_refl rb) _).setCell (p := ⟨rb, 1, none⟩) (Nat.le_refl rb) _).setCell (p := ⟨rb, 2, none⟩) (Nat.le_refl rb) _
      · have hnb : ∀ k, (Value.slice A9 G.1.2.2.length c9).ownBlock = some k → k ≠ rb := fun k hk => by have := (HO5.out.lt k hk).1; omega
        exact own_setE (own_setE (own_setE (own_low HO5.out (by have := HRb.out; omega)) hnb _) hnb _) hnb _
  · have HGG := hid (show G = ((0, 0, []), cd) by rw [HG.out, if_neg hc0])
    have hne : (cd != 0) = true := by simpa using hc0
    obtain ⟨-, r0, r1, r2, rz⟩ := HR2.out
    have z0 := rz 0
    have z1 := rz 1
    have z2 := rz 2
    clear hc0 rz
    go_wp2_with fail
    refine bodyPost_ret (v := .tuple #[.agg #[.int .i8 0, .int .i8 0, .slice none 0 0], .int .i64 cd]) (by simp [results, Try.results31, go_sem, r0, r1, r2]) rfl ?_
    rw [HGG.out]
    refine ⟨none, 0, rfl, ?_, World.ownsRow_nil _ _ _ _⟩
    rw [HRb.out]
    exact ((HB2.out.setCell (p := ⟨rb, 0, none⟩) (Nat.le_refl rb) _).setCell (p := ⟨rb, 1, none⟩) (Nat.le_refl rb) _).setCell (p := ⟨rb, 2, none⟩) (Nat.le_refl rb) _
theorem lay_LS (bb wb : Nat) (wi hi : Nat) (hw : 1 ≤ wi ∧ wi ≤ 24) (hh : 1 ≤ hi ∧ hi ≤ 24) (a : Option Addr) (c : Nat) (xs : List Pc) (p : Wy) (w : World) (hs : xs.length ≤ 1048576) (hb : BdA w bb wi hi a xs.length c) (h : SlA Pc.enc 5 w a xs) (hnc : a = none → c = 0) (hway : WyA w wb p) (hv : wayB wi hi xs p = true) :
    Calls Try.prog 31 #[.pointer (some ⟨bb, 0, none⟩), .pointer (some ⟨wb, 0, none⟩)] w (ResK w (lineG wi hi xs p)) :=
  layO_LS bb wb 0 wi hi hw hh a c xs p w hs hb h hnc hway.o hv
end Go.Proofs.Ytgkgklgeobbmlaa
