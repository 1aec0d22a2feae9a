/-
  The program's search for gaps: ascending lists of so many numbers, in order, until one is enough.
  FewestGaps, the program's.
  Conditions: the depth is 4 at most; what 'enough' does is given by its contract. the fields are in their kinds' ranges.
-/
import Derived.Test.YtebefcfalnkdmaaGreatFewS
import Derived.Test.YtebefcfalnkdmaaGreatAppM
import Derived.Test.YtebefcfalnkdmaaGreatCostI
import Derived.Deep.RegionHeld3
namespace Go.Proofs.YtebefcfalnkdmaaGreat
open Go.RowKit
set_option linter.unusedSimpArgs false
set_option linter.unusedVariables false

theorem clip_I (a : Option Addr) (n c : Nat) (w : World) (h : a = none → c = 0) (hn : n ≤ c) (hc : c ≤ 9223372036854775807) (hl : n ≤ 1048576) :
    Calls Tryz.prog 69 #[.slice a n c] w fun e w' => e = .returned (.slice a n n) ∧ w = w' := by
  cases a with
  | none =>
    obtain rfl := h rfl
    obtain rfl : n = 0 := by omega
    go_enter Tryz.func69, Tryz.ntmps69
    go_wp2_with fail
    go_ret
    exact ⟨rfl, rfl⟩
  | some b =>
    go_enter Tryz.func69, Tryz.ntmps69
    go_wp2_with fail
    go_ret
    exact ⟨rfl, rfl⟩
/-- The search's three boxes: what has been found, how many tries, the code. -/
structure SxI (Wb W : World) (R : FewR) : Prop where
  below : Below Wb.heap.size Wb W
  lt : Wb.heap.size + 3 ≤ W.heap.size
  ct : W.cell? ⟨Wb.heap.size + 1, 0, none⟩ = some (.int .i64 (R.2.2 : Nat))
  cc : W.cell? ⟨Wb.heap.size + 2, 0, none⟩ = some (.int .i64 R.2.1)
  co : ∃ A c, W.cell? ⟨Wb.heap.size, 0, none⟩ = some (.slice A R.1.length c) ∧ W.ownsRow (Wb.heap.size + 3) 2 1 (.slice A R.1.length c) R.1.length (R.1.flatMap en1)
  fz : ∀ i j, i < 3 → W.frozen? ⟨Wb.heap.size + i, j, none⟩ = false
theorem SxI.later {Wb W W1 : World} {R : FewR} (h : SxI Wb W R) (hb : Below W.heap.size W W1) : SxI Wb W1 R := by
  obtain ⟨A, c, h1, h2⟩ := h.co
  exact ⟨below_of h.below h.below.size hb, Nat.le_trans h.lt hb.size, cell_on hb h.ct, cell_on hb h.cc, ⟨A, c, cell_on hb h1, own_step h2 hb⟩, fun i j hi => (hb.frozen (p := ⟨_, j, none⟩) (by have := h.lt; show Wb.heap.size + i < _; omega)).trans (h.fz i j hi)⟩
theorem SxI.tick {Wb W : World} {l : List Int} {cd : Int} {t : Nat} (h : SxI Wb W (l, cd, t)) : SxI Wb (W.setCell ⟨Wb.heap.size + 1, 0, none⟩ (.int .i64 ((t : Int) + 1))) (l, cd, t + 1) := by
  obtain ⟨A, c, h1, h2⟩ := h.co
  refine ⟨h.below.setCell (by simp) _, by rw [World.size_setCell]; exact h.lt, ?_, ?_, ⟨A, c, ?_, ?_⟩, fun i j hi => ?_⟩
  · exact World.cell?_setCell_same _ _ _ (by rw [h.ct])
  · rw [World.cell?_setCell_other _ _ _ _ (by simp)]; exact h.cc
  · rw [World.cell?_setCell_other _ _ _ _ (by simp)]; exact h1
  · exact (Fr.store (X := Wb.heap.size) (n := 3) (i := 1) (j := 0) W _ (by omega)).own h2
  · rw [World.frozen?_setCell]; exact h.fz i j hi
theorem SxI.code {Wb W : World} {l : List Int} {cd : Int} {t : Nat} (h : SxI Wb W (l, cd, t)) (k : Int) : SxI Wb (W.setCell ⟨Wb.heap.size + 2, 0, none⟩ (.int .i64 k)) (l, k, t) := by
  obtain ⟨A, c, h1, h2⟩ := h.co
  refine ⟨h.below.setCell (by simp) _, by rw [World.size_setCell]; exact h.lt, ?_, ?_, ⟨A, c, ?_, ?_⟩, fun i j hi => ?_⟩
  · rw [World.cell?_setCell_other _ _ _ _ (by simp)]; exact h.ct
  · exact World.cell?_setCell_same _ _ _ (by rw [h.cc])
  · rw [World.cell?_setCell_other _ _ _ _ (by simp)]; exact h1
  · exact (Fr.store (X := Wb.heap.size) (n := 3) (i := 2) (j := 0) W _ (by omega)).own h2
  · rw [World.frozen?_setCell]; exact h.fz i j hi
theorem SxI.put {Wb W : World} {l gs : List Int} {cd : Int} {t : Nat} {A : Option Addr} {c : Nat} (h : SxI Wb W (l, cd, t)) (ho : W.ownsRow (Wb.heap.size + 3) 2 1 (.slice A gs.length c) gs.length (gs.flatMap en1)) : SxI Wb (W.setCell ⟨Wb.heap.size, 0, none⟩ (.slice A gs.length c)) (gs, cd, t) := by
  obtain ⟨_, _, h1, _⟩ := h.co
  refine ⟨h.below.setCell (by simp) _, by rw [World.size_setCell]; exact h.lt, ?_, ?_, ⟨A, c, ?_, ?_⟩, fun i j hi => ?_⟩
  · rw [World.cell?_setCell_other _ _ _ _ (by simp)]; exact h.ct
  · rw [World.cell?_setCell_other _ _ _ _ (by simp)]; exact h.cc
  · exact World.cell?_setCell_same _ _ _ (by rw [h1])
  · exact (Fr.store (X := Wb.heap.size) (n := 3) (i := 0) (j := 0) W _ (by omega)).own ho
  · rw [World.frozen?_setCell]; exact h.fz i j hi
theorem flatMap_nil_of {gs : List Int} (h : gs.length = 0) : gs.flatMap en1 = [] := by rw [List.eq_nil_of_length_eq_zero h]; rfl
def EnP (Wb W : World) (R : FewR) (e : Ending) (W' : World) : Prop := e = .returned (.bool (R.2.1 != 6)) ∧ Fr Wb.heap.size 3 W W' ∧ SxI Wb W' R
set_option maxRecDepth 100000 in
set_option maxHeartbeats 4000000 in
theorem chosen_I (Wb : World) (xs : List Pc) (most : Int) (bud : Nat) (hn : xs.length ≤ 60) (hbud : bud ≤ 300) (p1 p2 p3 p4 p5 p6 : Value)
    (HEN : ∀ (W : World) (gs : List Int) (A : Option Addr) (cA t : Nat), gs.length ≤ 4 → t ≤ bud → SxI Wb W ([], 6, t) → W.ownsRow (Wb.heap.size + 3) 2 1 (.slice A gs.length cA) gs.length (gs.flatMap en1) → ∀ m : Nat, m = gs.length →
      Calls Tryz.prog 47 #[.slice A m cA, p1, p2, p3, p4, p5, p6] W (EnP Wb W (leafG xs most bud gs t))) :
    ∀ (d : Nat) (W : World) (gs : List Int) (A : Option Addr) (cA from_ t : Nat), gs.length + d ≤ 4 → from_ ≤ xs.length → t ≤ bud → SxI Wb W ([], 6, t) →
      W.ownsRow (Wb.heap.size + 3) 2 1 (.slice A gs.length cA) gs.length (gs.flatMap en1) → ((gs = [] ∧ from_ = 0) ∨ ∃ (g' : List Int) (i : Nat), gs = g' ++ [(i : Int)] ∧ from_ = i + 1) → ∀ m : Nat, m = gs.length →
      Calls Tryz.prog 46 #[.int .i64 xs.length, .int .i64 d, .slice A m cA, .func (.func 47) #[] #[p1, p2, p3, p4, p5, p6]] W (EnP Wb W (lookG xs most bud d gs from_ t)) := by
  have hEN := hid HEN
  clear HEN
  intro d
  induction d with
  | zero =>
    intro W gs A cA from_ t hd hfr ht hS own hfrom m hm
    have HE := hid (hEN.out W gs A cA t (by omega) ht hS own m hm)
    rw [show lookG xs most bud 0 gs from_ t = leafG xs most bud gs t from rfl]
    generalize leafG xs most bud gs t = r at *
    clear own hS hfrom hm hd
    go_enter Tryz.func46, Tryz.ntmps46
    go_wp2_with (go_at_call 47; refine HE.out.mono ?_; rintro e w' ⟨rfl, hF, hS⟩)
    go_ret
    exact ⟨rfl, hF, hS⟩
  | succ d ih =>
    intro W gs A cA from_ t hd hfr ht hS own hfrom m hm
    have HM := hid hm
    rw [← hm] at hd own
    have hcap := own_caps own
    have HNC := hid (own_nilcase own)
    have hrow : SlA en1 1 W A gs := en1_row (by rw [← hm]; exact own : W.ownsRow (Wb.heap.size + 3) 2 1 (.slice A gs.length cA) gs.length (gs.flatMap en1))
    have hcase : (m = 0 ∧ from_ = 0) ∨ ∃ b o i0 K : Nat, A = some ⟨b, o, none⟩ ∧ K + 1 = m ∧ W.cell? ⟨b, o + K, none⟩ = some (.int .i64 (i0 : Int)) ∧ from_ = i0 + 1 := by
      rcases hfrom with ⟨h1, h2⟩ | ⟨g', i0, h1, h2⟩
      · exact .inl ⟨by rw [hm, h1]; rfl, h2⟩
      · have hl : gs.length = g'.length + 1 := by rw [h1, List.length_append]; rfl
        obtain ⟨b, o, rfl, hb, hc⟩ := en1_cells hrow (by omega)
        exact .inr ⟨b, o, i0, g'.length, rfl, by omega, hc g'.length _ (by rw [h1, List.getElem?_append_right (Nat.le_refl _), Nat.sub_self]; rfl), h2⟩
    clear hm hfrom hrow
    have HS := hid hS
    have HO := hid own
    clear hS own
    have hih := hid ih
    clear ih
    obtain ⟨f, hf⟩ : ∃ f : Nat → Nat → FewR, f = fun (i t : Nat) => lookG xs most bud d (gs ++ [(i : Int)]) (i + 1) t := ⟨_, rfl⟩
    have HF := hid (fun (i t : Nat) => (by rw [hf] : f i t = lookG xs most bud d (gs ++ [(i : Int)]) (i + 1) t))
    obtain ⟨R, hR⟩ : ∃ R, lookG xs most bud (d + 1) gs from_ t = R := ⟨_, rfl⟩
    have HLK := hid (show loopG f (xs.length - from_) from_ t = R by rw [← hR, hf]; rfl)
    rw [hR]
    clear hf hR
    obtain ⟨D, hD⟩ : ∃ D : Int, ((d + 1 : Nat) : Int) = D := ⟨_, rfl⟩
    rw [hD]
    have e1 : (D == 0) = false := by simp; omega
    have ws : IntKind.i64.wrap (D - 1) = (d : Int) := (IntWalk.i64_in _ (by omega)).trans (by omega)
    have hdm : m + d + 1 ≤ 4 := by omega
    clear hD hd
    rcases hcase with ⟨hm0, hf0⟩ | ⟨b, o, i0, K, rfl, hK, hcell, hf0⟩
    · have e3 : decide ((m : Int) > 0) = false := by rw [decide_eq_false_iff_not]; omega
      have e4 : decide (0 < m) = false := by rw [decide_eq_false_iff_not]; omega
      have HF0 := hid hf0
      clear hm0 hf0
      go_enter Tryz.func46, Tryz.ntmps46
      go_wp2_with fail
      clear e3 e4
      go_loopw [10] (fun iv wr => ∃ i t1 : Nat, from_ ≤ i ∧ i ≤ xs.length ∧ t1 ≤ bud ∧ iv = .int .i64 i ∧ SxI Wb wr ([], 6, t1) ∧ wr.ownsRow (Wb.heap.size + 3) 2 1 (.slice A m cA) m (gs.flatMap en1) ∧ Fr Wb.heap.size 3 W wr ∧ loopG f (xs.length - i) i t1 = R) (fun iv _ => xs.length - (intOf iv).toNat)
      case atStart => exact ⟨from_, t, Nat.le_refl _, hfr, ht, by rw [HF0.out]; rfl, HS.out, HO.out, Fr.refl _ _ _, HLK.out⟩
      case round =>
        obtain ⟨i, t1, hi1, hi2, ht1, rfl, hS, own, hFr, hlp⟩ := hrel
        have HS1 := hid hS
        have HO1 := hid own
        have HF1 := hid hFr
        have HL1 := hid hlp
        have hlW := hS.lt
        by_cases hlt : i < xs.length
        · have hdl : decide ((i : Int) < (xs.length : Int)) = true := by rw [decide_eq_true_iff]; omega
          have wi1 : IntKind.i64.wrap ((i : Int) + 1) = (i : Int) + 1 := IntWalk.i64_in _ (by omega)
          have HR3 := hid ((en1_row (by rw [← HM.out]; exact own : wr.ownsRow (Wb.heap.size + 3) 2 1 (.slice A gs.length cA) gs.length (gs.flatMap en1))).flat en1_length)
          have HCl := hid (fun W2 => clip_I A m cA W2 (fun h => HNC.out.elim (fun k => k.2) (fun k => absurd h k)) hcap.1 hcap.2 (by omega))
          have HFL := hid (flat_one gs (i : Int))
          obtain ⟨r, hr⟩ : ∃ r, f i t1 = r := ⟨_, rfl⟩
          have HRR := hid hr
          have HOK := hid (look_ok xs most bud d (gs ++ [(i : Int)]) (i + 1) t1 ht1)
          rw [← HF.out, hr] at HOK
          have HLN := hid (show (gs ++ [(i : Int)]).length = m + 1 by rw [List.length_append, List.length_singleton, ← HM.out])
          have HI := hid (fun W2 A2 c2 hS2 own2 => (show Calls Tryz.prog 46 #[.int .i64 xs.length, .int .i64 d, .slice A2 (m + 1) c2, .func (.func 47) #[] #[p1, p2, p3, p4, p5, p6]] W2 (EnP Wb W2 r) by
            rw [← hr, HF.out]
            exact hih.out W2 (gs ++ [(i : Int)]) A2 c2 (i + 1) t1 (by rw [HLN.out]; omega) (by omega) ht1 hS2 own2 (.inr ⟨gs, i, rfl, rfl⟩) (m + 1) HLN.out.symm))
          clear hS own hFr hlp hr
          go_wp2_with fail
          refine (HCl.out _).mono ?_
          rintro e w' ⟨rfl, rfl⟩
          go_wp2_with (at_builtin; refine app_grow 26 2 (.int .i64 0) 1 8 Tryz.underlying26 (by kernel_rfl) rfl (by decide) A m (gs.flatMap en1) ?c0 ?c1 ?c2 ?c3 (by decide) [.int .i64 (i : Int)] _ _ rfl rfl rfl _ rfl rfl rfl ?c4 ?_)
          case c0 => intro h; subst h; rcases HNC.out with k | k; have := hcap.1; omega; exact absurd rfl k
          case c1 => rw [flatMap_len en1_length, ← HM.out, Nat.mul_one]
          case c2 => intro b0 hb0 j u hj; obtain ⟨b1, o1, h1, h2⟩ := HR3.out (by rw [← HM.out]; exact Nat.pos_of_ne_zero (fun h => by rw [flatMap_nil_of (HM.out.symm.trans h)] at hj; simp at hj)); rw [hb0] at h1; cases h1; rw [Addr.add_lit]; exact h2 j u hj
          case c3 => omega
          case c4 => intro u hu; simp at hu; rcases hu with rfl; rfl
          intro A5 c5 w5 own5 hb5
          have HB5 := hid hb5
          have hz5 := hb5.size
          rw [← HFL.out] at own5
          have own5' : w5.ownsRow (Wb.heap.size + 3) 2 1 (.slice A5 (m + 1) c5) (m + 1) ((gs ++ [(i : Int)]).flatMap en1) := own_low own5 (by omega)
          rw [← HLN.out] at own5'
          have HI5 := hid (HI.out w5 A5 c5 (HS1.out.later hb5) own5')
          clear own5 own5' hb5
          go_wp2_with fail
          refine HI5.out.mono ?_
          rintro e w6 ⟨rfl, hF6, hS6⟩
          have F56 := (Fr.of_below (X := Wb.heap.size) (n := 3) HB5.out).trans hF6
          have HF6 := hid (HF1.out.trans F56)
          have HO6 := hid (F56.own HO1.out)
          have HS6 := hid hS6
          obtain ⟨rb, hrb⟩ : ∃ rb, (r.2.1 != 6) = rb := ⟨_, rfl⟩
          rw [hrb]
          have HRB := hid hrb
          clear F56 hF6 hS6 hrb
          cases rb with
          | false =>
            have h6 : r.2.1 = 6 := by have := HRB.out; simpa using this
            have hlp2 : loopG f (xs.length - (i + 1)) (i + 1) r.2.2 = R := by
              rw [← HL1.out, show xs.length - i = xs.length - (i + 1) + 1 by omega, loop_go (by rw [HRR.out]; exact h6), HRR.out]
            have HL2 := hid hlp2
            have hs2 : SxI Wb w6 ([], 6, r.2.2) := by
              have e1 := HOK.out.2.1 (by rw [h6]; decide)
              have hs := HS6.out
              rw [show r = ([], 6, r.2.2) from Prod.ext e1 (Prod.ext h6 rfl)] at hs
              exact hs
            have HS7 := hid hs2
            clear hlp2 h6 hs2
            go_wp2_with fail
            exact ⟨⟨i + 1, r.2.2, by omega, by omega, HOK.out.2.2.1, by go_num, HS7.out, HO6.out, HF6.out, HL2.out⟩, by simp [intOf]; omega⟩
          | true =>
            have h6 : r.2.1 ≠ 6 := by have := HRB.out; simpa using this
            have hlp2 : R = r := by
              rw [← HL1.out, show xs.length - i = xs.length - (i + 1) + 1 by omega, loop_at (by rw [HRR.out]; exact h6), HRR.out]
            have HL2 := hid hlp2
            clear hlp2 h6
            go_wp2_with fail
            go_ret
            rw [HL2.out]
            exact ⟨ret_bool HRB.out.symm, HF6.out, HS6.out⟩
        · obtain rfl : i = xs.length := by omega
          have hdl : decide ((xs.length : Int) < (xs.length : Int)) = false := by rw [decide_eq_false_iff_not]; omega
          clear hS own hFr hlp
          go_wp2_with fail
          go_ret
          have hl := HL1.out
          rw [Nat.sub_self] at hl
          rw [← hl]
          exact ⟨rfl, HF1.out, HS1.out⟩
    · have e3 : decide ((m : Int) > 0) = true := by rw [decide_eq_true_iff]; omega
      have e4 : decide (0 < m) = true := by rw [decide_eq_true_iff]; omega
      have ew : IntKind.i64.wrap ((m : Int) - 1) = (K : Int) := (IntWalk.i64_in _ (by omega)).trans (by omega)
      have hKm : K < m := by omega
      have wi0 : IntKind.i64.wrap ((i0 : Int) + 1) = (i0 : Int) + 1 := IntWalk.i64_in _ (by omega)
      have HF0 := hid hf0
      clear hf0 hK
      go_enter Tryz.func46, Tryz.ntmps46
      go_wp2_with fail
      clear e3 e4 hcell ew wi0 hKm
      go_loopw [10] (fun iv wr => ∃ i t1 : Nat, from_ ≤ i ∧ i ≤ xs.length ∧ t1 ≤ bud ∧ iv = .int .i64 i ∧ SxI Wb wr ([], 6, t1) ∧ wr.ownsRow (Wb.heap.size + 3) 2 1 (.slice (some ⟨b, o, none⟩) m cA) m (gs.flatMap en1) ∧ Fr Wb.heap.size 3 W wr ∧ loopG f (xs.length - i) i t1 = R) (fun iv _ => xs.length - (intOf iv).toNat)
      case atStart => exact ⟨from_, t, Nat.le_refl _, hfr, ht, by rw [HF0.out]; rfl, HS.out, HO.out, Fr.refl _ _ _, HLK.out⟩
      case round =>
        obtain ⟨i, t1, hi1, hi2, ht1, rfl, hS, own, hFr, hlp⟩ := hrel
        have HS1 := hid hS
        have HO1 := hid own
        have HF1 := hid hFr
        have HL1 := hid hlp
        have hlW := hS.lt
        by_cases hlt : i < xs.length
        · have hdl : decide ((i : Int) < (xs.length : Int)) = true := by rw [decide_eq_true_iff]; omega
          have wi1 : IntKind.i64.wrap ((i : Int) + 1) = (i : Int) + 1 := IntWalk.i64_in _ (by omega)
          have HR3 := hid ((en1_row (by rw [← HM.out]; exact own : wr.ownsRow (Wb.heap.size + 3) 2 1 (.slice (some ⟨b, o, none⟩) gs.length cA) gs.length (gs.flatMap en1))).flat en1_length)
          have HCl := hid (fun W2 => clip_I (some ⟨b, o, none⟩) m cA W2 (fun h => HNC.out.elim (fun k => k.2) (fun k => absurd h k)) hcap.1 hcap.2 (by omega))
          have HFL := hid (flat_one gs (i : Int))
          obtain ⟨r, hr⟩ : ∃ r, f i t1 = r := ⟨_, rfl⟩
          have HRR := hid hr
          have HOK := hid (look_ok xs most bud d (gs ++ [(i : Int)]) (i + 1) t1 ht1)
          rw [← HF.out, hr] at HOK
          have HLN := hid (show (gs ++ [(i : Int)]).length = m + 1 by rw [List.length_append, List.length_singleton, ← HM.out])
          have HI := hid (fun W2 A2 c2 hS2 own2 => (show Calls Tryz.prog 46 #[.int .i64 xs.length, .int .i64 d, .slice A2 (m + 1) c2, .func (.func 47) #[] #[p1, p2, p3, p4, p5, p6]] W2 (EnP Wb W2 r) by
            rw [← hr, HF.out]
            exact hih.out W2 (gs ++ [(i : Int)]) A2 c2 (i + 1) t1 (by rw [HLN.out]; omega) (by omega) ht1 hS2 own2 (.inr ⟨gs, i, rfl, rfl⟩) (m + 1) HLN.out.symm))
          clear hS own hFr hlp hr
          go_wp2_with fail
          refine (HCl.out _).mono ?_
          rintro e w' ⟨rfl, rfl⟩
          go_wp2_with (at_builtin; refine app_grow 26 2 (.int .i64 0) 1 8 Tryz.underlying26 (by kernel_rfl) rfl (by decide) (some ⟨b, o, none⟩) m (gs.flatMap en1) ?c0 ?c1 ?c2 ?c3 (by decide) [.int .i64 (i : Int)] _ _ rfl rfl rfl _ rfl rfl rfl ?c4 ?_)
          case c0 => intro h; cases h
          case c1 => rw [flatMap_len en1_length, ← HM.out, Nat.mul_one]
          case c2 => intro b0 hb0 j u hj; obtain ⟨b1, o1, h1, h2⟩ := HR3.out (by rw [← HM.out]; exact Nat.pos_of_ne_zero (fun h => by rw [flatMap_nil_of (HM.out.symm.trans h)] at hj; simp at hj)); rw [hb0] at h1; cases h1; rw [Addr.add_lit]; exact h2 j u hj
          case c3 => omega
          case c4 => intro u hu; simp at hu; rcases hu with rfl; rfl
          intro A5 c5 w5 own5 hb5
          have HB5 := hid hb5
          have hz5 := hb5.size
          rw [← HFL.out] at own5
          have own5' : w5.ownsRow (Wb.heap.size + 3) 2 1 (.slice A5 (m + 1) c5) (m + 1) ((gs ++ [(i : Int)]).flatMap en1) := own_low own5 (by omega)
          rw [← HLN.out] at own5'
          have HI5 := hid (HI.out w5 A5 c5 (HS1.out.later hb5) own5')
          clear own5 own5' hb5
          go_wp2_with fail
          refine HI5.out.mono ?_
          rintro e w6 ⟨rfl, hF6, hS6⟩
          have F56 := (Fr.of_below (X := Wb.heap.size) (n := 3) HB5.out).trans hF6
          have HF6 := hid (HF1.out.trans F56)
          have HO6 := hid (F56.own HO1.out)
          have HS6 := hid hS6
          obtain ⟨rb, hrb⟩ : ∃ rb, (r.2.1 != 6) = rb := ⟨_, rfl⟩
          rw [hrb]
          have HRB := hid hrb
          clear F56 hF6 hS6 hrb
          cases rb with
          | false =>
            have h6 : r.2.1 = 6 := by have := HRB.out; simpa using this
            have hlp2 : loopG f (xs.length - (i + 1)) (i + 1) r.2.2 = R := by
              rw [← HL1.out, show xs.length - i = xs.length - (i + 1) + 1 by omega, loop_go (by rw [HRR.out]; exact h6), HRR.out]
            have HL2 := hid hlp2
            have hs2 : SxI Wb w6 ([], 6, r.2.2) := by
              have e1 := HOK.out.2.1 (by rw [h6]; decide)
              have hs := HS6.out
              rw [show r = ([], 6, r.2.2) from Prod.ext e1 (Prod.ext h6 rfl)] at hs
              exact hs
            have HS7 := hid hs2
            clear hlp2 h6 hs2
            go_wp2_with fail
            exact ⟨⟨i + 1, r.2.2, by omega, by omega, HOK.out.2.2.1, by go_num, HS7.out, HO6.out, HF6.out, HL2.out⟩, by simp [intOf]; omega⟩
          | true =>
            have h6 : r.2.1 ≠ 6 := by have := HRB.out; simpa using this
            have hlp2 : R = r := by
              rw [← HL1.out, show xs.length - i = xs.length - (i + 1) + 1 by omega, loop_at (by rw [HRR.out]; exact h6), HRR.out]
            have HL2 := hid hlp2
            clear hlp2 h6
            go_wp2_with fail
            go_ret
            rw [HL2.out]
            exact ⟨ret_bool HRB.out.symm, HF6.out, HS6.out⟩
        · obtain rfl : i = xs.length := by omega
          have hdl : decide ((xs.length : Int) < (xs.length : Int)) = false := by rw [decide_eq_false_iff_not]; omega
          clear hS own hFr hlp
          go_wp2_with fail
          go_ret
          have hl := HL1.out
          rw [Nat.sub_self] at hl
          rw [← hl]
          exact ⟨rfl, HF1.out, HS1.out⟩
set_option maxRecDepth 100000 in
set_option maxHeartbeats 4000000 in
theorem enough_I (Wb : World) (bb mb qb : Nat) (wi hi : Int) (a : Option Addr) (c : Nat) (xs : List Pc) (most : Int) (bud : Nat) (hB : BrdOk xs) (hn : xs.length ≤ 60) (hbud : bud ≤ 300)
    (HBD : ∀ W, Below Wb.heap.size Wb W → BdA W bb wi hi a xs.length c ∧ SlA Pc.enc 5 W a xs) (hm : Wb.cell? ⟨mb, 0, none⟩ = some (.int .i64 most)) (hq : Wb.cell? ⟨qb, 0, none⟩ = some (.int .i64 (bud : Nat)))
    (W : World) (gs : List Int) (A : Option Addr) (cA t : Nat) (hg : gs.length ≤ 4) (ht : t ≤ bud) (hS : SxI Wb W ([], 6, t)) (own : W.ownsRow (Wb.heap.size + 3) 2 1 (.slice A gs.length cA) gs.length (gs.flatMap en1)) (m : Nat) (hml : m = gs.length) :
    Calls Tryz.prog 47 #[.slice A m cA, .pointer (some ⟨Wb.heap.size + 1, 0, none⟩), .pointer (some ⟨qb, 0, none⟩), .pointer (some ⟨Wb.heap.size + 2, 0, none⟩), .pointer (some ⟨bb, 0, none⟩), .pointer (some ⟨mb, 0, none⟩), .pointer (some ⟨Wb.heap.size, 0, none⟩)] W (EnP Wb W (leafG xs most bud gs t)) := by
  have HM := hid hml
  clear hml
  have HS := hid hS
  have HO := hid own
  have HBD := hid HBD
  have ct := hS.ct
  have cc := hS.cc
  have cq := hS.below.cell (p := ⟨qb, 0, none⟩) (World.block_lt_of_cell? Wb ⟨qb, 0, none⟩ hq)
  rw [hq] at cq
  have fz1 := hS.fz 1 0 (by omega)
  have fz2 := hS.fz 2 0 (by omega)
  by_cases htb : t = bud
  · have e1 : ((t : Int) == (bud : Int)) = true := by simp [htb]
    have HR := hid (show leafG xs most bud gs t = ([], 7, t) by unfold leafG; rw [if_pos htb])
    clear htb own hS
    go_enter Tryz.func47, Tryz.ntmps47
    go_wp2_with fail
    go_ret
    rw [HR.out]
    exact ⟨rfl, Fr.store (X := Wb.heap.size) (n := 3) (i := 2) (j := 0) W _ (by omega), HS.out.code 7⟩
  · have e1 : ((t : Int) == (bud : Int)) = false := by simp; omega
    have hw1 : IntKind.i64.wrap ((t : Int) + 1) = (t : Int) + 1 := IntWalk.i64_in _ (by omega)
    obtain ⟨W1, hW1⟩ : ∃ W1, W1 = W.setCell ⟨Wb.heap.size + 1, 0, none⟩ (.int .i64 ((t : Int) + 1)) := ⟨_, rfl⟩
    have hS1 : SxI Wb W1 ([], 6, t + 1) := by rw [hW1]; exact HS.out.tick
    have hF1 : Fr Wb.heap.size 3 W W1 := by
      rw [hW1]
      exact Fr.store (X := Wb.heap.size) (n := 3) (i := 1) (j := 0) W (.int .i64 ((t : Int) + 1)) (by omega)
    have own1 := hF1.own HO.out
    have d1 : W1.cell? ⟨mb, 0, none⟩ = some (.int .i64 most) := (hS1.below.cell (p := ⟨mb, 0, none⟩) (World.block_lt_of_cell? Wb ⟨mb, 0, none⟩ hm)).trans hm
    obtain ⟨hbd, hsl⟩ := HBD.out W1 hS1.below
    have hrow1 : SlA en1 1 W1 A gs := en1_row own1
    have HWo := hid (fun W2 (hb : Below W1.heap.size W1 W2) => without_lenT_I bb wi hi a c xs A cA gs W2 (by omega) (hbd.below hb hbd.lt) (hsl.below hb) (hrow1.below hb) m HM.out)
    have HCl := hid (fun W2 (hb : Below W1.heap.size W1 W2) => (show Calls Tryz.prog 49 #[.slice A m cA] W2 fun e w' => ∃ A c', e = .returned (.slice A m c') ∧ Below W2.heap.size W2 w' ∧ w'.ownsRow W2.heap.size 2 1 (.slice A gs.length c') gs.length (gs.flatMap en1) by
      rw [HM.out]
      exact clone_en1_I A cA gs W2 (hrow1.below hb) (fun h => (own_nilcase own1).elim (fun k => k.2) (fun k => absurd h k)) (by omega)))
    have HK := hid (hB.part (keep_sub gs xs 0))
    have HLd := hid (show leftG xs gs = costW (keepL gs 0 xs) from rfl)
    have hlf : leafG xs most bud gs t = if leftG xs gs ≤ most then (gs, 0, t + 1) else ([], 6, t + 1) := by unfold leafG; rw [if_neg htb]
    have HO1 := hid own1
    have HS1 := hid hS1
    have HF1 := hid hF1
    obtain ⟨L, hL⟩ : ∃ L, leftG xs gs = L := ⟨_, rfl⟩
    rw [hL] at hlf HLd
    clear htb own own1 hS hS1 hF1 hbd hsl hL hrow1
    generalize keepL gs 0 xs = ks at *
    by_cases hlm : L ≤ most
    · have e2 : decide (L > most) = false := by rw [decide_eq_false_iff_not]; omega
      have HR := hid (hlf.trans (if_pos hlm))
      clear hlf hlm
      go_enter Tryz.func47, Tryz.ntmps47
      go_wp2_with fail
      rw [← hW1]
      clear hW1
      go_region_held3 (fun w' => w'.cell? ⟨mb, 0, none⟩ = some (.int .i64 most))
        (first | with_reducible exact d1 | exact cell_on ((Below.refl _ _).drew) d1 | exact cell_on hbV0 (cell_on ((Below.refl _ _).drew) d1) | exact cell_on hbV1 (cell_on hbV0 (cell_on ((Below.refl _ _).drew) d1)))
        (first
          | (go_at_call 48; refine (HWo.out _ ?hb0).mono ?_; (case hb0 => first | exact (Below.refl _ _).drew | exact Below.refl _ _); rintro e V0 ⟨A0, k0, rfl, hbV0, own0⟩; have HC0 := hid (worstOf_I wi hi A0 k0 ks V0 HK.out (SlA.of_own Pc.enc_length own0)))
          | (go_at_call 38; refine HC0.out.mono ?_; rintro e V1 ⟨rfl, hbV1⟩; rw [← HLd.out]))
      have hbV := below_of ((Below.refl W1.heap.size W1).drew) (by simp) (below_of hbV0 hbV0.size hbV1)
      have HBV := hid hbV
      have HSV := hid (HS1.out.later hbV)
      have hCV := HCl.out V1 hbV
      have HCV := hid hCV
      clear hbV hbV0 hbV1 own0 hCV
      go_wp2_with fail
      refine HCV.out.mono ?_
      rintro e V2 ⟨A2, c2, rfl, hb2, own2⟩
      have HS2 := hid (HSV.out.later hb2)
      have co2 : ∃ u, V2.cell? ⟨Wb.heap.size, 0, none⟩ = some u := by obtain ⟨_, _, h, _⟩ := HS2.out.co; exact ⟨_, h⟩
      obtain ⟨u2, co2⟩ := co2
      have cc2 := HS2.out.cc
      have fa2 : V2.frozen? ⟨Wb.heap.size, 0, none⟩ = false := HS2.out.fz 0 0 (by omega)
      have fb2 := HS2.out.fz 2 0 (by omega)
      have HB2 := hid (below_of HBV.out HBV.out.size hb2)
      have HO2 := hid own2
      clear own2 hb2
      go_wp2_with fail
      go_ret
      rw [HR.out]
      have hlt := HS1.out.lt
      have ho3 : V2.ownsRow (Wb.heap.size + 3) 2 1 (.slice A2 gs.length c2) gs.length (gs.flatMap en1) := own_low HO2.out (Nat.le_trans hlt HBV.out.size)
      refine ⟨rfl, ?_, ?_⟩
      · exact ((HF1.out.trans (Fr.of_below HB2.out)).trans (Fr.store (X := Wb.heap.size) (n := 3) (i := 0) (j := 0) V2 _ (by omega))).trans (Fr.store (X := Wb.heap.size) (n := 3) (i := 2) (j := 0) _ _ (by omega))
      · rw [HM.out]
        exact (HS2.out.put ho3).code 0
    · have e2 : decide (L > most) = true := by rw [decide_eq_true_iff]; omega
      have HR := hid (hlf.trans (if_neg hlm))
      clear hlf hlm
      go_enter Tryz.func47, Tryz.ntmps47
      go_wp2_with fail
      rw [← hW1]
      clear hW1
      go_region_held3 (fun w' => w'.cell? ⟨mb, 0, none⟩ = some (.int .i64 most))
        (first | with_reducible exact d1 | exact cell_on ((Below.refl _ _).drew) d1 | exact cell_on hbV0 (cell_on ((Below.refl _ _).drew) d1) | exact cell_on hbV1 (cell_on hbV0 (cell_on ((Below.refl _ _).drew) d1)))
        (first
          | (go_at_call 48; refine (HWo.out _ ?hb0).mono ?_; (case hb0 => first | exact (Below.refl _ _).drew | exact Below.refl _ _); rintro e V0 ⟨A0, k0, rfl, hbV0, own0⟩; have HC0 := hid (worstOf_I wi hi A0 k0 ks V0 HK.out (SlA.of_own Pc.enc_length own0)))
          | (go_at_call 38; refine HC0.out.mono ?_; rintro e V1 ⟨rfl, hbV1⟩; rw [← HLd.out]))
      have hbV := below_of ((Below.refl W1.heap.size W1).drew) (by simp) (below_of hbV0 hbV0.size hbV1)
      have HBV := hid hbV
      have HSV := hid (HS1.out.later hbV)
      clear hbV hbV0 hbV1 own0
      go_wp2_with fail
      go_ret
      rw [HR.out]
      exact ⟨rfl, HF1.out.trans (Fr.of_below HBV.out), HSV.out⟩
theorem sxi_new (w : World) : SxI w (((w.alloc (.cells #[.slice none 0 0] 26)).alloc (.cells #[.int .i64 0] 2)).alloc (.cells #[.int .i64 6] 2)) ([], 6, 0) := by
  refine ⟨(((Below.refl _ _).alloc (Nat.le_refl _) _).alloc (by simp) _).alloc (by simp; omega) _, ?_, ?_, ?_, ⟨none, 0, ?_, World.ownsRow_nil _ _ _ _⟩, fun i j hi => ?_⟩
  · simp only [World.size_alloc]; omega
  · simp [go_sem]
  · simp [go_sem]
  · simp [go_sem]
  · have : i = 0 ∨ i = 1 ∨ i = 2 := by omega
    rcases this with rfl | rfl | rfl <;> simp [go_sem]
set_option maxRecDepth 100000 in
set_option maxHeartbeats 4000000 in
theorem FewestGaps_I (w : World) (wi hi : Int) (wl : -128 ≤ wi) (wu : wi ≤ 127) (hl : -128 ≤ hi) (hu : hi ≤ 127) (a : Option Addr) (c : Nat) (xs : List Pc) (h : SlA Pc.enc 5 w a xs) (_ : a = none → c = 0) (ok : ∀ p ∈ xs, p.Ok) (hs : xs.length ≤ 1048576) (most : Int) (ml : -9223372036854775808 ≤ most) (mu : most ≤ 9223372036854775807) (cnt : Int) (cl : -9223372036854775808 ≤ cnt) (cu : cnt ≤ 9223372036854775807) (bud : Int) (bl : -9223372036854775808 ≤ bud) (bu : bud ≤ 9223372036854775807) :
    Calls Tryz.prog 21 #[.agg #[.int .i8 wi, .int .i8 hi, .slice a xs.length c], .int .i64 most, .int .i64 cnt, .int .i64 bud] w (ResS2 en1 1 2 w (FewestGapsG wi hi xs most cnt bud).1 (FewestGapsG wi hi xs most cnt bud).2.1 (FewestGapsG wi hi xs most cnt bud).2.2) := by
  obtain ⟨W0, hW0⟩ : ∃ W, W = ((w.alloc (.cells #[.int .i8 wi, .int .i8 hi, .slice a xs.length c] 32)).alloc (.cells #[.int .i64 most] 2)).alloc (.cells #[.int .i64 bud] 2) := ⟨_, rfl⟩
  have B00 : Below w.heap.size w (w.alloc (.cells #[.int .i8 wi, .int .i8 hi, .slice a xs.length c] 32)) := (Below.refl _ _).alloc (Nat.le_refl _) _
  have B01 : Below (w.heap.size + 1) (w.alloc (.cells #[.int .i8 wi, .int .i8 hi, .slice a xs.length c] 32)) W0 := by rw [hW0]; exact ((Below.refl _ _).alloc (by simp) _).alloc (by simp) _
  have B0 : Below w.heap.size w W0 := B00.trans (B01.mono (by omega))
  have hbd : BdA W0 w.heap.size wi hi a xs.length c := (bd_box w wi hi a xs.length c 32).below B01 (by omega)
  have d0 : W0.cell? ⟨w.heap.size, 0, none⟩ = some (.int .i8 wi) := hbd.c0
  have d1 : W0.cell? ⟨w.heap.size, 1, none⟩ = some (.int .i8 hi) := hbd.c1
  have d2 : W0.cell? ⟨w.heap.size, 2, none⟩ = some (.slice a xs.length c) := hbd.c2
  have HM0 := hid (show W0.cell? ⟨w.heap.size + 1, 0, none⟩ = some (.int .i64 most) by rw [hW0]; simp [go_sem])
  have HQ0 := hid (show W0.cell? ⟨w.heap.size + 2, 0, none⟩ = some (.int .i64 bud) by rw [hW0]; simp [go_sem])
  have HAs := hid (builtOk_I wi hi a c xs W0 ⟨wl, wu, hl, hu⟩ (h.below B0) ok)
  have HB0 := hid B0
  have HBD := hid (fun W (hb : Below W0.heap.size W0 W) => (⟨hbd.below hb hbd.lt, (h.below B0).below hb⟩ : BdA W w.heap.size wi hi a xs.length c ∧ SlA Pc.enc 5 W a xs))
  obtain ⟨v, hv⟩ : ∃ v, builtG wi hi xs = v := ⟨_, rfl⟩
  rw [hv] at HAs
  by_cases hv0 : v = 0
  · subst hv0
    obtain ⟨hB, hn⟩ := built_zero hv
    by_cases hbad : most < 0 ∨ inB cnt 0 4 = false ∨ inB bud 0 300 = false
    · have HG := hid (show FewestGapsG wi hi xs most cnt bud = ([], 0, 2) by unfold FewestGapsG; rw [if_pos hv, if_pos hbad])
      have hcases : (decide (most < 0) = true) ∨ (decide (most < 0) = false ∧ inB cnt 0 4 = false) ∨ (decide (most < 0) = false ∧ inB cnt 0 4 = true ∧ inB bud 0 300 = false) := by
        by_cases h1 : most < 0
        · exact .inl (decide_eq_true h1)
        · cases h2 : inB cnt 0 4 with
          | false => exact .inr (.inl ⟨decide_eq_false h1, rfl⟩)
          | true => exact .inr (.inr ⟨decide_eq_false h1, rfl, by rcases hbad with h | h | h; exact absurd h h1; rw [h2] at h; cases h; exact h⟩)
      clear B0 B00 B01 hbd h hv hbad
      rcases hcases with k1 | ⟨k1, k2⟩ | ⟨k1, k2, k3⟩
      all_goals (
        go_enter Tryz.func21, Tryz.ntmps21
        go_upto_region 1 with fail
        rw [← hW0]
        clear hW0
        go_wp2_with fail
        refine HAs.out.mono ?_
        rintro e w1 ⟨rfl, hb1⟩
        have m1 := cell_on hb1 HM0.out
        have q1 : w1.cell? ⟨w.heap.size + 1 + 1, 0, none⟩ = _ := cell_on hb1 HQ0.out
        have HB1 := hid (below_of HB0.out HB0.out.size hb1)
        clear hb1 d0 d1 d2
        go_wp2_with (go_at_call 45; refine (in_I _ _ _ _).mono ?_; rintro e w' ⟨rfl, rfl⟩)
        refine bodyPost_ret (v := .tuple #[.slice none 0 0, .int .i64 0, .int .i64 2]) (by simp [results, Tryz.results21, go_sem]) rfl ?_
        rw [HG.out]
        exact ResS2.nil HB1.out)
    · have hgood : (¬ most < 0) ∧ inB cnt 0 4 = true ∧ inB bud 0 300 = true := by
        refine ⟨fun h => hbad (.inl h), ?_, ?_⟩
        · cases h2 : inB cnt 0 4 with
          | true => rfl
          | false => exact absurd (.inr (.inl h2)) hbad
        · cases h2 : inB bud 0 300 with
          | true => rfl
          | false => exact absurd (.inr (.inr h2)) hbad
      obtain ⟨k0, k2, k3⟩ := hgood
      have k1 : decide (most < 0) = false := decide_eq_false k0
      have rc := inB_iff.1 k2
      have rb := inB_iff.1 k3
      obtain ⟨C, rfl⟩ : ∃ C : Nat, cnt = C := ⟨cnt.toNat, by omega⟩
      obtain ⟨B, rfl⟩ : ∃ B : Nat, bud = B := ⟨bud.toNat, by omega⟩
      obtain ⟨R, hR⟩ : ∃ R, fewT xs most B C = R := ⟨_, rfl⟩
      have HG := hid (show FewestGapsG wi hi xs most C B = if R.2.1 = 0 then (R.1, (R.2.2 : Int), 0) else ([], 0, R.2.1) by unfold FewestGapsG; rw [if_pos hv, if_neg hbad, Int.toNat_natCast, Int.toNat_natCast, hR])
      obtain ⟨f, hf⟩ : ∃ f : Nat → Nat → FewR, f = fun (n t : Nat) => lookG xs most B n [] 0 t := ⟨_, rfl⟩
      have HF := hid (fun (n t : Nat) => (by rw [hf] : f n t = lookG xs most B n [] 0 t))
      have HLK := hid (show loopG f (C + 1) 0 0 = R by rw [← hR, hf]; rfl)
      have HB := hid hB
      have hC4 : C ≤ 4 := by omega
      have hB3 : B ≤ 300 := by omega
      have hwc : IntKind.i64.wrap ((C : Int) + 1) = (C : Int) + 1 := IntWalk.i64_in _ (by omega)
      clear B0 B00 B01 hbd h hv hbad hR hf k0 rc rb hB
      go_enter Tryz.func21, Tryz.ntmps21
      go_upto_region 1 with fail
      rw [← hW0]
      clear hW0
      go_wp2_with fail
      refine HAs.out.mono ?_
      rintro e w1 ⟨rfl, hb1⟩
      have m1 := cell_on hb1 HM0.out
      have q1 : w1.cell? ⟨w.heap.size + 1 + 1, 0, none⟩ = _ := cell_on hb1 HQ0.out
      have HM1 := hid m1
      have HQ1 := hid q1
      have HB1 := hid (below_of HB0.out HB0.out.size hb1)
      have HW1 := hid hb1
      have hz1 := HB1.out.size
      clear hb1 d0 d1 d2
      have HLo := hid (chosen_I w1 xs most B (by omega) hB3 _ _ _ _ _ _ (enough_I w1 w.heap.size (w.heap.size + 1) (w.heap.size + 2) wi hi a c xs most B HB.out (by omega) hB3 (fun W hW => HBD.out W (below_of HW1.out HW1.out.size hW)) HM1.out HQ1.out))
      obtain ⟨W2, hW2⟩ : ∃ W, W = ((w1.alloc (.cells #[.slice none 0 0] 26)).alloc (.cells #[.int .i64 0] 2)).alloc (.cells #[.int .i64 6] 2) := ⟨_, rfl⟩
      have HS2 := hid (show SxI w1 W2 ([], 6, 0) by rw [hW2]; exact sxi_new w1)
      go_wp2_with (go_at_call 45; refine (in_I _ _ _ _).mono ?_; rintro e w' ⟨rfl, rfl⟩)
      rw [← hW2]
      clear hW2 m1 q1
      go_loopw [35] (fun iv wr => ∃ n t : Nat, n ≤ C + 1 ∧ t ≤ B ∧ iv = .int .i64 n ∧ SxI w1 wr ([], 6, t) ∧ Fr w1.heap.size 3 W2 wr ∧ loopG f (C + 1 - n) n t = R) (fun iv _ => C + 1 - (intOf iv).toNat)
      case atStart => exact ⟨0, 0, Nat.zero_le _, Nat.zero_le _, rfl, HS2.out, Fr.refl _ _ _, HLK.out⟩
      case round =>
        obtain ⟨n, t, hn1, ht, rfl, hS, hFr, hlp⟩ := hrel
        have HS := hid hS
        have HFr := hid hFr
        have HLp := hid hlp
        have hlt := hS.lt
        have ccr : wr.cell? ⟨w1.heap.size + 1 + 1, 0, none⟩ = _ := hS.cc
        have q2 := (HBD.out wr (below_of HW1.out HW1.out.size hS.below)).1.c2
        have HT := hid (below_of HB1.out hz1 hS.below)
        clear hS hFr hlp
        by_cases hnC : n ≤ C
        · have hd : decide ((n : Int) < (C : Int) + 1) = true := by rw [decide_eq_true_iff]; omega
          obtain ⟨r, hr⟩ : ∃ r, f n t = r := ⟨_, rfl⟩
          have HRR := hid hr
          have HOK := hid (look_ok xs most B n [] 0 t ht)
          rw [← HF.out, hr] at HOK
          have HI := hid (show Calls Tryz.prog 46 #[.int .i64 xs.length, .int .i64 n, .slice none 0 0, .func (.func 47) #[] #[.pointer (some ⟨w1.heap.size + 1, 0, none⟩), .pointer (some ⟨w.heap.size + 1 + 1, 0, none⟩), .pointer (some ⟨w1.heap.size + 1 + 1, 0, none⟩), .pointer (some ⟨w.heap.size, 0, none⟩), .pointer (some ⟨w.heap.size + 1, 0, none⟩), .pointer (some ⟨w1.heap.size, 0, none⟩)]] wr (EnP w1 wr r) by
            rw [← hr, HF.out]
            exact HLo.out n wr [] none 0 0 t (by simp; omega) (Nat.zero_le _) ht HS.out (World.ownsRow_nil _ _ _ _) (.inl ⟨rfl, rfl⟩) 0 rfl)
          clear hr ccr
          go_wp2_with fail
          refine HI.out.mono ?_
          rintro e w6 ⟨rfl, hF6, hS6⟩
          have HF6 := hid (HFr.out.trans hF6)
          have HS6 := hid hS6
          have cc6 : w6.cell? ⟨w1.heap.size + 1 + 1, 0, none⟩ = _ := hS6.cc
          have ct6 := hS6.ct
          obtain ⟨A6, c6, co6, own6⟩ := hS6.co
          have HN6 := hid own6
          have HT6 := hid (below_of HB1.out hz1 hS6.below)
          have hlt6 := hS6.lt
          obtain ⟨rc, hrc⟩ : ∃ rc, r.2.1 = rc := ⟨_, rfl⟩
          rw [hrc] at cc6 ⊢
          have HRC := hid hrc
          have hco := HOK.out.1
          rw [hrc] at hco
          clear hF6 hS6 own6 hrc
          rcases hco with rfl | rfl | rfl
          · have hlp2 : R = r := by
              rw [← HLp.out, show C + 1 - n = C + 1 - (n + 1) + 1 by omega, loop_at (by rw [HRR.out, HRC.out]; decide), HRR.out]
            have HL2 := hid hlp2
            clear hlp2
            go_wp2_with fail
            go_region
            go_wp2_with fail
            refine bodyPost_ret (v := .tuple #[.slice A6 r.1.length c6, .int .i64 (r.2.2 : Nat), .int .i64 0]) (by simp [results, Tryz.results21, go_sem]) rfl ?_
            rw [HG.out, HL2.out, if_pos HRC.out]
            exact ⟨A6, c6, rfl, HT6.out.drew, own_low (own_step HN6.out ((Below.refl _ _).drew)) (by omega)⟩
          · have hlp2 : loopG f (C + 1 - (n + 1)) (n + 1) r.2.2 = R := by
              rw [← HLp.out, show C + 1 - n = C + 1 - (n + 1) + 1 by omega, loop_go (by rw [HRR.out, HRC.out]), HRR.out]
            have HL2 := hid hlp2
            have hs2 : SxI w1 w6 ([], 6, r.2.2) := by
              have e1 := HOK.out.2.1 (by rw [HRC.out]; decide)
              have hs := HS6.out
              rw [show r = ([], 6, r.2.2) from Prod.ext e1 (Prod.ext HRC.out rfl)] at hs
              exact hs
            have HS7 := hid hs2
            clear hlp2 hs2 cc6 ct6 co6
            go_wp2_with fail
            exact ⟨⟨n + 1, r.2.2, by omega, HOK.out.2.2.1, by go_num, HS7.out, HF6.out, HL2.out⟩, by simp [intOf]; omega⟩
          · have hlp2 : R = r := by
              rw [← HLp.out, show C + 1 - n = C + 1 - (n + 1) + 1 by omega, loop_at (by rw [HRR.out, HRC.out]; decide), HRR.out]
            have HL2 := hid hlp2
            clear hlp2
            go_wp2_with fail
            go_region
            go_wp2_with fail
            refine bodyPost_ret (v := .tuple #[.slice none 0 0, .int .i64 0, .int .i64 7]) (by simp [results, Tryz.results21, go_sem]) rfl ?_
            rw [HG.out, HL2.out, if_neg (by rw [HRC.out]; decide), HRC.out]
            exact ResS2.nil HT6.out.drew
        · obtain rfl : n = C + 1 := by omega
          have hd : decide (((C + 1 : Nat) : Int) < (C : Int) + 1) = false := by rw [decide_eq_false_iff_not]; omega
          have hd2 : decide ((C : Int) + 1 < (C : Int) + 1) = false := by rw [decide_eq_false_iff_not]; omega
          have hl := HLp.out
          rw [Nat.sub_self] at hl
          have HR := hid hl.symm
          clear hl
          go_wp2_with fail
          go_region
          go_wp2_with fail
          refine bodyPost_ret (v := .tuple #[.slice none 0 0, .int .i64 0, .int .i64 6]) (by simp [results, Tryz.results21, go_sem]) rfl ?_
          have e6 : R = ([], 6, t) := HR.out
          rw [HG.out, e6]
          exact ResS2.nil HT.out.drew
  · have HG := hid (show FewestGapsG wi hi xs most cnt bud = ([], 0, v) by unfold FewestGapsG; rw [hv, if_neg hv0])
    have hne : (v != 0) = true := by simpa using hv0
    have heq : (v == 0) = false := by simpa using hv0
    clear B0 B00 B01 hbd h hv hv0
    go_enter Tryz.func21, Tryz.ntmps21
    go_upto_region 1 with fail
    rw [← hW0]
    clear hW0
    go_wp2_with fail
    refine HAs.out.mono ?_
    rintro e w1 ⟨rfl, hb1⟩
    have HB1 := hid (below_of HB0.out HB0.out.size hb1)
    clear hb1
    go_wp2_with fail
    refine bodyPost_ret (v := .tuple #[.slice none 0 0, .int .i64 0, .int .i64 v]) (by simp [results, Tryz.results21, go_sem]) rfl ?_
    rw [HG.out]
    exact ResS2.nil HB1.out
end Go.Proofs.YtebefcfalnkdmaaGreat
