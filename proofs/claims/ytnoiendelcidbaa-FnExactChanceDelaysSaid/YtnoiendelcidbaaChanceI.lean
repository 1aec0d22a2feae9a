/-
  ChanceDelays: the program's walk.
  Conditions: the fields are in their kinds' ranges.
-/
import Derived.Test.YtnoiendelcidbaaChanceS
import Derived.Test.YtnoiendelcidbaaAround
namespace Go.Proofs.Ytnoiendelcidbaa
open Go.RowKit
set_option linter.unusedSimpArgs false
set_option linter.unusedVariables false

theorem ChanceDelays_len (wi hi : Int) (xs : List Pc) (ys : List Sp) (s : Int) (h : xs.length ≤ 1048576) (_ : ys.length ≤ 1048576) : (ChanceDelaysG wi hi xs ys s).1.2.2.length ≤ 1048576 := by
  unfold ChanceDelaysG
  split
  · split
    · simp
    · dsimp only
      rw [chanceK_len]
      exact h
  · simp
set_option maxRecDepth 100000 in
set_option maxHeartbeats 800000 in
theorem ChanceDelays_I (w : World) (wi hi : Int) (wl : -128 ≤ wi) (wu : wi ≤ 127) (hl : -128 ≤ hi) (hu : hi ≤ 127) (a : Option Addr) (c : Nat) (xs : List Pc) (h : SlA Pc.enc 5 w a xs) (hnc : a = none → c = 0) (ok : ∀ p ∈ xs, p.Ok) (hs : xs.length ≤ 1048576) (a2 : Option Addr) (c2 : Nat) (ys : List Sp) (h2 : SlA Sp.enc 2 w a2 ys) (hnc2 : a2 = none → c2 = 0) (ok2 : ∀ p ∈ ys, p.Ok) (hs2 : ys.length ≤ 1048576) (s : Int) (sl : 0 ≤ s) (su : s ≤ 4294967295) :
    Calls Try.prog 48 #[.agg #[.int .i8 wi, .int .i8 hi, .slice a xs.length c], .slice a2 ys.length c2, .int .u32 s] w (ResB3 w (ChanceDelaysG wi hi xs ys s).1.1 (ChanceDelaysG wi hi xs ys s).1.2.1 (ChanceDelaysG wi hi xs ys s).1.2.2 (ChanceDelaysG wi hi xs ys s).2.1 (ChanceDelaysG wi hi xs ys s).2.2) := by
  obtain ⟨W0, hW0⟩ : ∃ W, W = (w.alloc (Obj.cells #[.int .i8 wi, .int .i8 hi, .slice a xs.length c] 63)).alloc (Obj.cells #[.int .i8 0, .int .i8 0, .slice none 0 0] 63) := ⟨_, rfl⟩
  have B0 : Below w.heap.size w W0 := by rw [hW0]; exact ((Below.refl _ _).alloc (Nat.le_refl _) _).alloc (by simp) _
  have hbx : BdA W0 w.heap.size wi hi a xs.length c := by rw [hW0]; exact ⟨by simp; omega, by simp [go_sem], by simp [go_sem], by simp [go_sem]⟩
  have hr0 : BoxB W0 (w.heap.size + 1) 0 0 none 0 0 := by rw [hW0]; exact ⟨⟨by simp, by simp [go_sem], by simp [go_sem], by simp [go_sem]⟩, by simp [go_sem], by simp [go_sem], by simp [go_sem]⟩
  have hz0 : W0.heap.size = w.heap.size + 1 + 1 := by rw [hW0]; simp
  obtain ⟨v, hv⟩ : ∃ v, ValidSpansG wi hi xs ys = v := ⟨_, rfl⟩
  have Hvs := hid (fun (x : Later W0) => ValidSpans_I x.w wi hi wl wu hl hu a c xs (h.below (B0.trans (x.below.mono (by omega)))) hnc ok hs a2 c2 ys (h2.below (B0.trans (x.below.mono (by omega)))) hnc2 ok2 hs2)
  have Htk := hid (fun (x : Later W0) => timedOk_I wi hi a c xs v x.w ⟨wl, wu, hl, hu⟩ (h.below (B0.trans (x.below.mono (by omega)))) ok)
  have Hcl := hid (fun W (hB : Below W0.heap.size W0 W) => clone_Pc_L a c xs W (h.below (B0.trans (hB.mono (by omega)))) hnc hs)
  rw [hv] at Hvs
  have hL := @later_cell W0
  have hxl : w.heap.size < W0.heap.size := by omega
  have HR := hid hr0
  have HB := hid B0
  have HZ := hid hz0
  have HX := hid hbx
  have sa := h.small
  have sb := h2.small
  have Hv := hid hv
  obtain ⟨y9, y0, y1, y2⟩ := id hbx
  cases v
  · have G : ChanceDelaysG wi hi xs ys s = ((0, 0, []), 0, 1) := by unfold ChanceDelaysG; rw [hv]; simp
    have T : timedG wi hi xs false = 1 := by unfold timedG; simp
    rw [G]
    rw [T] at Htk
    clear hv G T
    go_enter Try.func48, Try.ntmps48
    go_wp2_with fail
    rw [← hW0]
    clear hW0 hr0 B0 hbx
    refine wp_region_later (by kernel_rfl) (by kernel_rfl) ?_
    repeat (first | go_big_quiet_skip | (go_big_quiet_want; go_big_quiet_op; first | go_big_quiet_on | (apply Exists.intro; refine ⟨fun _ => ?_, ?_⟩; (first | (go_at_call 36; exact quiet_later (Hvs.out _)) | (go_at_call 77; exact quiet_later (Htk.out _))); go_big_quiet_on)))
    refine wpQuiet_nil ?_
    rintro ⟨w1, hb1⟩
    dsimp only
    have B1 := hid (HB.out.trans (hb1.mono (by have := HZ.out; omega)))
    have hs1 := hb1.size
    have hzz := HZ.out
    obtain ⟨⟨r9, r0, r1, r2⟩, z0, z1, z2⟩ := HR.out.below hb1 HR.out.bd.lt
    clear hb1
    go_wp2_with fail
    refine bodyPost_ret (v := .tuple #[.agg #[.int .i8 0, .int .i8 0, .slice none 0 0], .int .u32 0, .int .i64 1]) (by simp [results, Try.results48, go_sem, r0, r1, r2, r9]) rfl ⟨none, 0, by simp, ?_, World.ownsRow_nil _ _ _ _⟩
    repeat (refine Below.setCell ?_ (by simp; try omega) _)
    exact B1.out
  · by_cases h60 : 60 < xs.length
    · have G : ChanceDelaysG wi hi xs ys s = ((0, 0, []), 0, 3) := by unfold ChanceDelaysG; rw [hv]; simp [h60]
      have hbk : bdOk wi hi xs = true := by unfold ValidSpansG at hv; simp only [Bool.and_eq_true] at hv; exact hv.1
      have T : timedG wi hi xs true = 3 := by unfold timedG; rw [hbk]; simp [h60]
      rw [G]
      rw [T] at Htk
      clear hv G T hbk
      go_enter Try.func48, Try.ntmps48
      go_wp2_with fail
      rw [← hW0]
      clear hW0 hr0 B0 hbx
      refine wp_region_later (by kernel_rfl) (by kernel_rfl) ?_
      repeat (first | go_big_quiet_skip | (go_big_quiet_want; go_big_quiet_op; first | go_big_quiet_on | (apply Exists.intro; refine ⟨fun _ => ?_, ?_⟩; (first | (go_at_call 36; exact quiet_later (Hvs.out _)) | (go_at_call 77; exact quiet_later (Htk.out _))); go_big_quiet_on)))
      refine wpQuiet_nil ?_
      rintro ⟨w1, hb1⟩
      dsimp only
      have B1 := hid (HB.out.trans (hb1.mono (by have := HZ.out; omega)))
      have hs1 := hb1.size
      have hzz := HZ.out
      obtain ⟨x9, x0, x1, x2⟩ := HX.out.below hb1 HX.out.lt
      obtain ⟨⟨r9, r0, r1, r2⟩, z0, z1, z2⟩ := HR.out.below hb1 HR.out.bd.lt
      clear hb1
      go_wp2_with fail
      refine bodyPost_ret (v := .tuple #[.agg #[.int .i8 0, .int .i8 0, .slice none 0 0], .int .u32 0, .int .i64 3]) (by simp [results, Try.results48, go_sem, r0, r1, r2, r9]) rfl ⟨none, 0, by simp, ?_, World.ownsRow_nil _ _ _ _⟩
      repeat (refine Below.setCell ?_ (by simp; try omega) _)
      exact B1.out
    · have G : ChanceDelaysG wi hi xs ys s = ((wi, hi, (chanceK s xs ys xs.length).1), (chanceK s xs ys xs.length).2, 0) := by unfold ChanceDelaysG; rw [hv]; simp [h60]
      have hbk : bdOk wi hi xs = true := by unfold ValidSpansG at hv; simp only [Bool.and_eq_true] at hv; exact hv.1
      have T : timedG wi hi xs true = 0 := by unfold timedG; rw [hbk]; simp [h60]
      rw [G]
      rw [T] at Htk
      clear hv G T hbk
      go_enter Try.func48, Try.ntmps48
      go_wp2_with fail
      rw [← hW0]
      clear hW0 hr0 B0 hbx
      refine wp_region_later (by kernel_rfl) (by kernel_rfl) ?_
      repeat (first | go_big_quiet_skip | (go_big_quiet_want; go_big_quiet_op; first | go_big_quiet_on | (apply Exists.intro; refine ⟨fun _ => ?_, ?_⟩; (first | (go_at_call 36; exact quiet_later (Hvs.out _)) | (go_at_call 77; exact quiet_later (Htk.out _))); go_big_quiet_on)))
      refine wpQuiet_nil ?_
      rintro ⟨w1, hb1⟩
      dsimp only
      have hs1 := hb1.size
      have hzz := HZ.out
      obtain ⟨x9, x0, x1, x2⟩ := HX.out.below hb1 HX.out.lt
      go_wp2_with fail
      refine (Hcl.out _ hb1).mono ?_
      rintro e w20 ⟨A, cA, rfl, hb20, own0⟩
      have hs20 := hb20.size
      go_wp2_with fail
      refine (with_I w.heap.size wi hi a xs.length c A xs.length cA w20 (HX.out.below (hb1.trans (hb20.mono hb1.size)) HX.out.lt)).mono ?_
      rintro e w2 ⟨rfl, hb21⟩
      have own := own_step own0 hb21
      have hb2 := below_then hb20 hb21
      clear hb20 hb21 own0
      have hsz2 := hb2.size
      have B2 := hid (HB.out.trans ((hb1.trans (hb2.mono hb1.size)).mono (by omega)))
      have HR2 := hid (HR.out.below (hb1.trans (hb2.mono hb1.size)) HR.out.bd.lt)
      obtain ⟨W2, hW2⟩ : ∃ W, W = w2.alloc (Obj.cells #[.int .i8 wi, .int .i8 hi, .slice A xs.length cA] 63) := ⟨_, rfl⟩
      have b22 : Below w2.heap.size w2 W2 := by rw [hW2]; exact (Below.refl _ _).alloc (Nat.le_refl _) _
      have hq2 : BoxB W2 w2.heap.size wi hi A xs.length cA := by rw [hW2]; exact ⟨⟨by simp, by simp [go_sem], by simp [go_sem], by simp [go_sem]⟩, by simp [go_sem], by simp [go_sem], by simp [go_sem]⟩
      have HQ2 := hid hq2
      have Ho := hid (own_step own b22)
      have HB3 := hid (below_of B2.out (by omega) b22)
      have HR3 := hid (HR2.out.below b22 HR2.out.bd.lt)
      have hs3 := b22.size
      have HOL := hid (fun k (hk : (Value.slice A xs.length cA).ownBlock = some k) => (own.lt k hk).2)
      clear hb1 hb2 own b22 hq2
      go_wp2_with fail
      rw [← hW2]
      have hs4 : w2.heap.size < W2.heap.size := by rw [hW2]; simp
      clear hW2
      go_loopw [2, 28] (fun sd i wr => ∃ (k : Nat) (L : List Pc) (t : Int), k ≤ xs.length ∧ i = .int .i64 k ∧ sd = .int .u32 t ∧ 0 ≤ t ∧ t ≤ 4294967295 ∧ chanceK s xs ys k = (L, t) ∧ Below w.heap.size w wr ∧ BoxB wr (w.heap.size + 1) 0 0 none 0 0 ∧ BoxB wr w2.heap.size wi hi A xs.length cA ∧ wr.ownsRow w1.heap.size 124 5 (.slice A xs.length cA) xs.length (L.flatMap Pc.enc) ∧ w2.heap.size < wr.heap.size) (fun _ i _ => xs.length - (intOf i).toNat)
      case atStart => exact ⟨0, xs, s, Nat.zero_le _, rfl, rfl, sl, su, rfl, HB3.out, HR3.out, HQ2.out, Ho.out, hs4⟩
      case round =>
        obtain ⟨k, L, t, hk, rfl, rfl, t0, t1, hc, hbl, hr, hq, own, hsz⟩ := hrel
        have hLl : L.length = xs.length := by have := chanceK_len s xs ys k; rw [hc] at this; exact this
        by_cases hlt : k < xs.length
        · have hval := Hv.out
          unfold ValidSpansG at hval
          simp only [Bool.and_eq_true, beq_iff_eq] at hval
          obtain ⟨_, hyl, hall⟩ := hval
          have hky : k < ys.length := by omega
          clear hyl
          obtain ⟨b2, o2, rfl, hb2', hc2⟩ := h2.cells (by omega)
          have e2 : ys[k]? = some ys[k] := List.getElem?_eq_getElem hky
          have okq : spOk ys[k] = true := List.all_eq_true.1 hall _ (List.getElem_mem hky)
          have e1 : L[k]? = some L[k] := List.getElem?_eq_getElem (by omega)
          have Hq := hid e2
          have Hp := hid e1
          clear e1 e2 hall
          generalize ys[k] = q at *
          generalize L[k] = p at *
          have hr1 := chanceD_range (t := seedN t) okq (seedN_range t).1
          have HC := hid (chanceK_step hc Hp.out Hq.out)
          have hzb := hbl.size
          have s0 : wr.cell? ⟨b2, o2 + k * 2, none⟩ = some (.int .i8 q.lo) := (hbl.cell (p := ⟨b2, _, none⟩) hb2').trans (hc2 k _ Hq.out 0 _ rfl)
          have s1 : wr.cell? ⟨b2, o2 + k * 2 + 1, none⟩ = some (.int .i8 q.hi) := (hbl.cell (p := ⟨b2, _, none⟩) hb2').trans (hc2 k _ Hq.out 1 _ rfl)
          simp only [spOk, Bool.and_eq_true, decide_eq_true_eq] at okq
          obtain ⟨⟨ok1, ok3⟩, ok4⟩ := okq
          obtain ⟨g, rfl⟩ : ∃ g, A = some ⟨g, 0, none⟩ := by
            obtain ⟨g, cap', hv', _, _⟩ := own.form (by omega)
            injection hv' with hv1
            exact ⟨g, hv1⟩
          have hcs := own.1
          have hgw : w1.heap.size ≤ g ∧ g < wr.heap.size := own.lt g rfl
          have c4 : wr.cell? ⟨g, k * 5 + 4, none⟩ = some ((L.flatMap Pc.enc).getD (k * 5 + 4) undef) := (own.cellAt _ (by omega)).trans (getD_some (by omega))
          have z4 : wr.frozen? ⟨g, k * 5 + 4, none⟩ = false := own.frozenAt _
          obtain ⟨t2, ht2⟩ : ∃ t2, seedN t = t2 := ⟨_, rfl⟩
          have ht2' : (1664525 * t + 1013904223) % 4294967296 = t2 := ht2
          have tr := seedN_range t
          rw [ht2] at HC hr1 tr
          obtain ⟨tr0, tr1⟩ := tr
          obtain ⟨d, hd⟩ : ∃ d, chanceD q t2 = d := ⟨_, rfl⟩
          rw [hd] at HC hr1
          obtain ⟨d0, d1⟩ := hr1
          obtain ⟨n, hn⟩ : ∃ n, q.hi - q.lo = n := ⟨_, rfl⟩
          obtain ⟨m, hm⟩ : ∃ m, n + 1 = m := ⟨_, rfl⟩
          obtain ⟨u, hu9⟩ : ∃ u, t2 / 65536 = u := ⟨_, rfl⟩
          obtain ⟨r, hr9⟩ : ∃ r, d - q.lo = r := ⟨_, rfl⟩
          have n0 : 0 ≤ n := by omega
          have n1 : n ≤ 8 := by omega
          have m0 : 1 ≤ m := by omega
          have m1 : m ≤ 9 := by omega
          have u0 : 0 ≤ u := by omega
          have u1 : u ≤ 65535 := by omega
          have r0 : 0 ≤ r := by omega
          have r1 : r ≤ 8 := by omega
          have hrem : u.tmod m = r := by
            rw [Int.tmod_eq_emod_of_nonneg u0]
            unfold chanceD at hd
            rw [hu9, hn, hm] at hd
            omega
          have hrem2 : u % m = r := by rw [← Int.tmod_eq_emod_of_nonneg u0]; exact hrem
          have hsum : q.lo + r = d := by omega
          have w1' : IntKind.i64.wrap u = u := IntWalk.i64_in _ (by omega)
          have w2' : IntKind.i8.wrap n = n := IntWalk.i8_in _ (by omega)
          have w3' : IntKind.i64.wrap n = n := IntWalk.i64_in _ (by omega)
          have w4' : IntKind.i64.wrap m = m := IntWalk.i64_in _ (by omega)
          have w5' : IntKind.i8.wrap r = r := IntWalk.i8_in _ (by omega)
          have w6' : IntKind.i8.wrap d = d := IntWalk.i8_in _ (by omega)
          have w7' : IntKind.i64.wrap r = r := IntWalk.i64_in _ (by omega)
          have w8' : IntKind.u32.wrap m = m := IntWalk.u32_in _ (by omega)
          have w9' : IntKind.i8.wrap m = m := IntWalk.i8_in _ (by omega)
          have w10' : IntKind.u32.wrap r = r := IntWalk.u32_in _ (by omega)
          have m2 : m ≠ 0 := by omega
          have m3 : (m == 0) = false := by simpa using m2
          have hk0 : (0 : Int) ≤ (k : Int) := Int.natCast_nonneg _
          have hk1 : (k : Int) < (xs.length : Int) := by omega
          clear hr9 hd
          obtain ⟨W3, hW3⟩ : ∃ W, W = wr.alloc (Obj.cells #[.int .i8 q.lo, .int .i8 q.hi] 98) := ⟨_, rfl⟩
          have b33 : Below wr.heap.size wr W3 := by rw [hW3]; exact (Below.refl _ _).alloc (Nat.le_refl _) _
          have x0' : W3.cell? ⟨wr.heap.size, 0, none⟩ = some (.int .i8 q.lo) := by rw [hW3]; simp
          have x1' : W3.cell? ⟨wr.heap.size, 1, none⟩ = some (.int .i8 q.hi) := by rw [hW3]; simp
          have hq3 := hq.below b33 hq.bd.lt
          have q3 := hq3.bd.c2
          have q0 := hq.bd.c2
          have c43 := (b33.cell (p := ⟨g, k * 5 + 4, none⟩) hgw.2).trans c4
          have z43 := (b33.frozen (p := ⟨g, k * 5 + 4, none⟩) hgw.2).trans z4
          have x0d : ({ W3 with drawn := W3.drawn + 1 } : World).cell? ⟨wr.heap.size, 0, none⟩ = some (.int .i8 q.lo) := x0'
          have x1d : ({ W3 with drawn := W3.drawn + 1 } : World).cell? ⟨wr.heap.size, 1, none⟩ = some (.int .i8 q.hi) := x1'
          have q3d : ({ W3 with drawn := W3.drawn + 1 } : World).cell? ⟨w2.heap.size, 2, none⟩ = some (.slice (some ⟨g, 0, none⟩) xs.length cA) := q3
          go_wp2_with fail
          rw [← hW3]
          clear hW3
          go_still_tail 19, (by kernel_rfl)
          change wpList _ _ _ _ _ W3.drew
          have q3w := cell_on ((Below.refl W3.heap.size W3).drew) q3
          have c4w := cell_on ((Below.refl W3.heap.size W3).drew) c43
          have z4w : W3.drew.frozen? ⟨g, k * 5 + 4, none⟩ = false := z43
          go_wp2_with fail
          have own3 := own_step own b33
          have st : _ ∧ _ := own3.stored (k * 5 + 4) (.int .i8 d)
          have hgq : g < w2.heap.size := HOL.out g rfl
          have BF := ((below_of hbl hzb b33).setCell (p := ⟨g, k * 5 + 4, none⟩) (by dsimp only; omega) (.int .i8 d)).drew
          have hz3 := b33.size
          have dr := (Below.refl (W3.setCell ⟨g, k * 5 + 4, none⟩ (.int .i8 d)).heap.size (W3.setCell ⟨g, k * 5 + 4, none⟩ (.int .i8 d))).drew
          refine ⟨⟨k + 1, L.set k { p with d := d }, t2, by omega, by go_num, rfl, tr0, tr1, HC.out, BF, ((hr.below b33 hr.bd.lt).kept (setCell_grown W3 g (k * 5 + 4) (.int .i8 d)) (by simp; omega)).below dr (by simp; omega), ((hq.below b33 hq.bd.lt).kept (setCell_grown W3 g (k * 5 + 4) (.int .i8 d)) (by simp; omega)).below dr (by simp; omega), ?_, by simp; omega⟩, by simp [intOf]; omega⟩
          rw [flat_set_one Pc.enc_length p { p with d := d } 4 (.int .i8 d) (by decide) rfl L k Hp.out]
          exact st.1.drew
        · obtain rfl : k = xs.length := by omega
          have hyl' : ys.length ≤ xs.length := by
            have hval := Hv.out
            unfold ValidSpansG at hval
            simp only [Bool.and_eq_true, beq_iff_eq] at hval
            omega
          have q2 := hq.bd.c2
          obtain ⟨⟨q9, q0, q1, _⟩, _, _, _⟩ := hq
          obtain ⟨⟨r9, r0, r1, r2⟩, z0, z1, z2⟩ := hr
          have Ho2 := hid own
          have HB9 := hid hbl
          have HE := hid hc
          clear own hbl hc
          go_wp2_with fail
          refine bodyPost_ret (v := .tuple #[.agg #[.int .i8 wi, .int .i8 hi, .slice A xs.length cA], .int .u32 t, .int .i64 0]) (by simp [results, Try.results48, go_sem, r0, r1, r2, r9]) rfl ⟨A, cA, by rw [HE.out]; simp [hLl], ?_, ?_⟩
          · repeat (refine Below.setCell ?_ (by simp; try omega) _)
            exact HB9.out
          · have own := Ho2.out
            rw [HE.out]
            dsimp only
            rw [hLl]
            repeat (refine World.ownsRow.kept (row := some (w.heap.size + 1)) ?_ (setCell_grown _ _ _ _) (.inr (fun e => by have := (own.lt _ e).1; omega)))
            exact own_low own (by omega)
end Go.Proofs.Ytnoiendelcidbaa
