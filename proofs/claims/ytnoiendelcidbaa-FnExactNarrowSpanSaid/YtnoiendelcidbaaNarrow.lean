/-
  NarrowSpan, both the program's and the reference's.
  Conditions: the fields are in their kinds' ranges; a bound on the length.
-/
import Derived.Test.YtnoiendelcidbaaSpans
namespace Go.Proofs.Ytnoiendelcidbaa
open Go.RowKit
set_option linter.unusedSimpArgs false
set_option linter.unusedVariables false

def narrowG (xs : List Sp) (i lo hi : Int) : List Sp × Int :=
  if xs.any (fun p => !spOk p) then ([], 1)
  else if !inB i 0 (xs.length - 1) || !inB hi 1 9 || !inB lo 1 hi then ([], 2)
  else if lo < (xs.getD i.toNat Sp.z).lo ∨ (xs.getD i.toNat Sp.z).hi < hi then ([], 4)
  else (xs.set i.toNat ⟨lo, hi⟩, 0)
theorem any_not_all (xs : List Sp) : xs.any (fun p => !spOk p) = !xs.all spOk := by
  induction xs with
  | nil => rfl
  | cons x xs ih => simp [ih]
theorem narrowG_bad {xs : List Sp} {i lo hi : Int} (h : xs.all spOk = false) : narrowG xs i lo hi = ([], 1) := by
  unfold narrowG
  rw [any_not_all, h]
  rfl
theorem narrowG_range {xs : List Sp} {i lo hi : Int} (h : xs.all spOk = true) (hr : (inB i 0 (xs.length - 1) && inB hi 1 9 && inB lo 1 hi) = false) : narrowG xs i lo hi = ([], 2) := by
  unfold narrowG
  rw [any_not_all, h]
  simp only [Bool.not_true, Bool.false_eq_true, if_false]
  rw [if_pos]
  cases h1 : inB i 0 (xs.length - 1) <;> cases h2 : inB hi 1 9 <;> cases h3 : inB lo 1 hi <;> simp_all
theorem narrowG_in {xs : List Sp} {k : Nat} {lo hi : Int} {p : Sp} (h : xs.all spOk = true) (hr : (inB (k : Int) 0 (xs.length - 1) && inB hi 1 9 && inB lo 1 hi) = true) (hp : xs[k]? = some p) :
    narrowG xs k lo hi = if lo < p.lo ∨ p.hi < hi then ([], 4) else (xs.set k ⟨lo, hi⟩, 0) := by
  unfold narrowG
  rw [any_not_all, h]
  simp only [Bool.not_true, Bool.false_eq_true, if_false]
  simp only [Bool.and_eq_true] at hr
  rw [if_neg (by simp [hr.1.1, hr.1.2, hr.2])]
  simp [List.getD_eq_getElem?_getD, hp]
set_option maxRecDepth 100000 in
set_option maxHeartbeats 1000000 in
theorem Narrow_S (a : Option Addr) (c : Nat) (xs : List Sp) (i lo hi : Int) (w : World) (h : SlA Sp.enc 2 w a xs) (ok : ∀ p ∈ xs, p.Ok) (hs : xs.length ≤ 1048576) :
    Calls Try.prog 22 #[.slice a xs.length c, .int .i64 i, .int .i64 lo, .int .i64 hi] w (ResS Sp.enc 2 98 w (narrowG xs i lo hi).1 (narrowG xs i lo hi).2) := by
  have Hs := hid (spans_S a c xs w h ok)
  by_cases ha : xs.all spOk = true
  · by_cases hr : (inB i 0 (xs.length - 1) && inB hi 1 9 && inB lo 1 hi) = true
    · have hr' := hr
      simp only [Bool.and_eq_true, inB, decide_eq_true_eq] at hr'
      obtain ⟨⟨⟨i0, i1⟩, u0, u1⟩, l0, l1⟩ := hr'
      obtain ⟨k, rfl⟩ := Int.eq_ofNat_of_zero_le i0
      have hlt : k < xs.length := by omega
      obtain ⟨b1, o1, rfl, hb1, hc1⟩ := h.cells (by omega)
      have e1 : xs[k]? = some xs[k] := List.getElem?_eq_getElem hlt
      have okp : xs[k].Ok := ok _ (List.getElem_mem hlt)
      have G := narrowG_in ha hr e1
      rw [G]
      have Hp := hid e1
      have f0 := hc1 k _ e1 0 _ rfl
      have f1 := hc1 k _ e1 1 _ rfl
      have F0 := hid f0
      have F1 := hid f1
      clear f0 f1 hc1 e1 G
      generalize xs[k] = p at *
      obtain ⟨pl, ph⟩ := p
      obtain ⟨p0, p1, p2, p3⟩ := okp
      dsimp only at p0 p1 p2 p3 F0 F1
      rw [ha] at Hs
      simp only [Bool.and_eq_true] at hr
      obtain ⟨⟨r1, r2⟩, r3⟩ := hr
      have Hfl := hid (h.flat Sp.enc_length)
      clear ha ok h
      by_cases hst : lo < pl ∨ ph < hi
      · rw [if_pos hst]
        have hlo : lo < pl ∨ pl ≤ lo := by omega
        have Hst := hid hst
        clear hst
        go_enter Try.func22, Try.ntmps22
        go_wp2_with fail
        refine Hs.out.mono ?_
        rintro e w1 ⟨rfl, hb⟩
        have f0 : w1.cell? ⟨b1, o1 + k * 2, none⟩ = some (.int .i8 pl) := (hb.cell (p := ⟨b1, _, none⟩) hb1).trans F0.out
        have f1 : w1.cell? ⟨b1, o1 + k * 2 + 1, none⟩ = some (.int .i8 ph) := (hb.cell (p := ⟨b1, _, none⟩) hb1).trans F1.out
        rcases hlo with hlo | hlo
        · go_wp2_with (go_at_call 62; refine (in_S _ _ _ _).mono ?_; rintro e w' ⟨rfl, rfl⟩)
          go_ret2
          exact ResS.empty hb
        · have hhi : ph < hi := by have := Hst.out; omega
          go_wp2_with (go_at_call 62; refine (in_S _ _ _ _).mono ?_; rintro e w' ⟨rfl, rfl⟩)
          go_ret2
          exact ResS.empty hb
      · rw [if_neg hst]
        have hlo : pl ≤ lo := by omega
        have hhi : hi ≤ ph := by omega
        clear hst
        go_enter Try.func22, Try.ntmps22
        go_wp2_with fail
        refine Hs.out.mono ?_
        rintro e w1 ⟨rfl, hb⟩
        have f0 : w1.cell? ⟨b1, o1 + k * 2, none⟩ = some (.int .i8 pl) := (hb.cell (p := ⟨b1, _, none⟩) hb1).trans F0.out
        have f1 : w1.cell? ⟨b1, o1 + k * 2 + 1, none⟩ = some (.int .i8 ph) := (hb.cell (p := ⟨b1, _, none⟩) hb1).trans F1.out
        go_wp2_with (first | (go_at_call 62; refine (in_S _ _ _ _).mono ?_; rintro e w' ⟨rfl, rfl⟩) | (at_builtin; refine app_many rfl _ _ 41 rfl w.heap.size 98 (.agg Sp.z.enc.toArray) 2 2 Try.underlying41 (by kernel_rfl) rfl (by decide) _ 0 [] rfl (World.ownsRow_lit w1 #[] 0 hb.size (by simp [maxLen]) (by simp)) (some ⟨b1, o1, none⟩) xs.length c (xs.flatMap Sp.enc) rfl ?c1 ?c6 ?c2 ?c3 ?c4 (by decide) ?c5 ?_))
        case c1 => exact flatMap_len Sp.enc_length xs
        case c2 => exact oneCell_flat (fun p u hu => by simp [Sp.enc] at hu; rcases hu with rfl | rfl <;> rfl) xs
        case c3 => exact fun _ => .inr (by simp)
        case c4 => omega
        case c5 => have := hb.size; simp; omega
        case c6 =>
          intro hp
          obtain ⟨b, q, e, hc⟩ := Hfl.out hp
          injection e with e
          injection e with e1 e2
          subst e1 e2
          exact ⟨b1, o1, rfl, fun j u hu => ((hb.alloc hb.size _).cell (p := ⟨b1, _, none⟩) hb1).trans (hc j u hu)⟩
        intro v1 w2 own1 hg1 hat
        try simp only [Nat.zero_add, List.nil_append] at own1
        obtain ⟨A1, c1_, rfl⟩ := own_slice own1
        obtain ⟨g, rfl⟩ : ∃ g, A1 = some ⟨g, 0, none⟩ := by
          obtain ⟨g, cap', hv, _, _⟩ := own1.form (by omega)
          injection hv with hv1
          exact ⟨g, hv1⟩
        have hB2 : Below w.heap.size w w2 := (hb.alloc hb.size _).grown hg1 (by have := hb.size; simp; omega) (by simp [Value.ownBlock]; exact hb.size)
        have hgw : w.heap.size ≤ g := (own1.lt g rfl).1
        have hcs := own1.1
        have c0 : w2.cell? ⟨g, k * 2, none⟩ = some ((xs.flatMap Sp.enc).getD (k * 2) undef) := (own1.cellAt _ (by omega)).trans (getD_some (by omega))
        have z0 : w2.frozen? ⟨g, k * 2, none⟩ = false := own1.frozenAt _
        have c1 : w2.cell? ⟨g, k * 2 + 1, none⟩ = some ((xs.flatMap Sp.enc).getD (k * 2 + 1) undef) := (own1.cellAt _ (by omega)).trans (getD_some (by omega))
        have z1 : w2.frozen? ⟨g, k * 2 + 1, none⟩ = false := own1.frozenAt _
        have Ho := hid own1
        have HB := hid hB2
        clear own1 hg1 hat hcs hB2
        go_wp2_with fail
        go_ret2
        have h0 : _ ∧ _ := Ho.out.stored (k * 2) (.int .i8 lo)
        have h1 : _ ∧ _ := h0.1.stored (k * 2 + 1) (.int .i8 hi)
        refine ⟨some ⟨g, 0, none⟩, c1_, by simp, (HB.out.setCell hgw _).setCell hgw _, ?_⟩
        rw [flat_set Sp.enc_length _ _ _ hlt, List.length_set]
        exact h1.1
    · have hr' : (inB i 0 (xs.length - 1) && inB hi 1 9 && inB lo 1 hi) = false := by simpa using hr
      rw [narrowG_range ha hr']
      rw [ha] at Hs
      have hl := h.small
      clear ha ok h
      by_cases r1 : inB i 0 (xs.length - 1) = true
      · by_cases r2 : inB hi 1 9 = true
        · have r3 : inB lo 1 hi = false := by simpa [r1, r2] using hr'
          clear hr hr'
          go_enter Try.func22, Try.ntmps22
          go_wp2_with fail
          refine Hs.out.mono ?_
          rintro e w1 ⟨rfl, hb⟩
          go_wp2_with (go_at_call 62; refine (in_S _ _ _ _).mono ?_; rintro e w' ⟨rfl, rfl⟩)
          go_ret2
          exact ResS.empty hb
        · have r2' : inB hi 1 9 = false := by simpa using r2
          clear hr hr' r2
          go_enter Try.func22, Try.ntmps22
          go_wp2_with fail
          refine Hs.out.mono ?_
          rintro e w1 ⟨rfl, hb⟩
          go_wp2_with (go_at_call 62; refine (in_S _ _ _ _).mono ?_; rintro e w' ⟨rfl, rfl⟩)
          go_ret2
          exact ResS.empty hb
      · have r1' : inB i 0 (xs.length - 1) = false := by simpa using r1
        clear hr hr' r1
        go_enter Try.func22, Try.ntmps22
        go_wp2_with fail
        refine Hs.out.mono ?_
        rintro e w1 ⟨rfl, hb⟩
        go_wp2_with (go_at_call 62; refine (in_S _ _ _ _).mono ?_; rintro e w' ⟨rfl, rfl⟩)
        go_ret2
        exact ResS.empty hb
  · have ha' : xs.all spOk = false := by simpa using ha
    rw [narrowG_bad ha']
    rw [ha'] at Hs
    clear ha ha' ok h
    go_enter Try.func22, Try.ntmps22
    go_wp2_with fail
    refine Hs.out.mono ?_
    rintro e w1 ⟨rfl, hb⟩
    go_wp2_with fail
    go_ret2
    exact ResS.empty hb
set_option maxRecDepth 100000 in
set_option maxHeartbeats 1000000 in
theorem Narrow_I (a : Option Addr) (c : Nat) (xs : List Sp) (i lo hi : Int) (w : World) (h : SlA Sp.enc 2 w a xs) (hca : a = none → c = 0) (ok : ∀ p ∈ xs, p.Ok) (hs : xs.length ≤ 1048576) :
    Calls Try.prog 24 #[.slice a xs.length c, .int .i64 i, .int .i64 lo, .int .i64 hi] w (ResS Sp.enc 2 98 w (narrowG xs i lo hi).1 (narrowG xs i lo hi).2) := by
  have Hs := hid (has_badSpan a c xs w h ok)
  rw [any_not_all] at Hs
  by_cases ha : xs.all spOk = true
  · by_cases hr : (inB i 0 (xs.length - 1) && inB hi 1 9 && inB lo 1 hi) = true
    · have hr' := hr
      simp only [Bool.and_eq_true, inB, decide_eq_true_eq] at hr'
      obtain ⟨⟨⟨i0, i1⟩, u0, u1⟩, l0, l1⟩ := hr'
      obtain ⟨k, rfl⟩ := Int.eq_ofNat_of_zero_le i0
      have hlt : k < xs.length := by omega
      obtain ⟨b1, o1, rfl, hb1, hc1⟩ := h.cells (by omega)
      have e1 : xs[k]? = some xs[k] := List.getElem?_eq_getElem hlt
      have okp : xs[k].Ok := ok _ (List.getElem_mem hlt)
      have G := narrowG_in ha hr e1
      rw [G]
      have Hp := hid e1
      have f0 := hc1 k _ e1 0 _ rfl
      have f1 := hc1 k _ e1 1 _ rfl
      have F0 := hid f0
      have F1 := hid f1
      clear f0 f1 hc1 e1 G
      generalize xs[k] = p at *
      obtain ⟨pl, ph⟩ := p
      obtain ⟨p0, p1, p2, p3⟩ := okp
      dsimp only at p0 p1 p2 p3 F0 F1
      rw [ha] at Hs
      have r1 : inB (k : Int) 0 (xs.length - 1) = true := by simp [inB]; omega
      have r2 : inB lo 1 9 = true := by simp [inB]; omega
      have r3 : inB hi lo 9 = true := by simp [inB]; omega
      clear hr
      have h0 := h
      clear ha ok h
      by_cases hst : lo < pl ∨ ph < hi
      · rw [if_pos hst]
        have hlo : lo < pl ∨ pl ≤ lo := by omega
        have Hst := hid hst
        clear hst
        go_enter Try.func24, Try.ntmps24
        go_wp2_with fail
        refine Hs.out.mono ?_
        rintro e w1 ⟨rfl, hb⟩
        have f0 : w1.cell? ⟨b1, o1 + k * 2, none⟩ = some (.int .i8 pl) := (hb.cell (p := ⟨b1, _, none⟩) hb1).trans F0.out
        have f1 : w1.cell? ⟨b1, o1 + k * 2 + 1, none⟩ = some (.int .i8 ph) := (hb.cell (p := ⟨b1, _, none⟩) hb1).trans F1.out
        rcases hlo with hlo | hlo
        · go_wp2_with (go_at_call 66; refine (in_I _ _ _ _).mono ?_; rintro e w' ⟨rfl, rfl⟩)
          go_ret2
          exact ResS.nil hb
        · have hhi : ph < hi := by have := Hst.out; omega
          go_wp2_with (go_at_call 66; refine (in_I _ _ _ _).mono ?_; rintro e w' ⟨rfl, rfl⟩)
          go_ret2
          exact ResS.nil hb
      · rw [if_neg hst]
        have hlo : pl ≤ lo := by omega
        have hhi : hi ≤ ph := by omega
        clear hst
        go_enter Try.func24, Try.ntmps24
        go_wp2_with fail
        refine Hs.out.mono ?_
        rintro e w1 ⟨rfl, hb⟩
        have f0 : w1.cell? ⟨b1, o1 + k * 2, none⟩ = some (.int .i8 pl) := (hb.cell (p := ⟨b1, _, none⟩) hb1).trans F0.out
        have f1 : w1.cell? ⟨b1, o1 + k * 2 + 1, none⟩ = some (.int .i8 ph) := (hb.cell (p := ⟨b1, _, none⟩) hb1).trans F1.out
        have hL2 := h0.below hb
        have Hcl := hid (clone_Sp_L _ c xs w1 hL2 hca hs)
        clear hL2
        go_wp2_with (go_at_call 66; refine (in_I _ _ _ _).mono ?_; rintro e w' ⟨rfl, rfl⟩)
        refine Hcl.out.mono ?_
        rintro e w2 ⟨A1, c1_, rfl, hb2, own1⟩
        obtain ⟨g, rfl⟩ : ∃ g, A1 = some ⟨g, 0, none⟩ := by
          obtain ⟨g, cap', hv, _, _⟩ := own1.form (by omega)
          injection hv with hv1
          exact ⟨g, hv1⟩
        have hB2 : Below w.heap.size w w2 := below_of hb hb.size hb2
        have hgw : w.heap.size ≤ g := Nat.le_trans hb.size (own1.lt g rfl).1
        have hcs := own1.1
        have c0 : w2.cell? ⟨g, k * 2, none⟩ = some ((xs.flatMap Sp.enc).getD (k * 2) undef) := (own1.cellAt _ (by omega)).trans (getD_some (by omega))
        have z0 : w2.frozen? ⟨g, k * 2, none⟩ = false := own1.frozenAt _
        have c1 : w2.cell? ⟨g, k * 2 + 1, none⟩ = some ((xs.flatMap Sp.enc).getD (k * 2 + 1) undef) := (own1.cellAt _ (by omega)).trans (getD_some (by omega))
        have z1 : w2.frozen? ⟨g, k * 2 + 1, none⟩ = false := own1.frozenAt _
        have Ho := hid own1
        have HB := hid hB2
        have HZ := hid hb.size
        clear own1 hcs hB2 h0 hca
        go_wp2_with fail
        go_ret2
        have h0 : _ ∧ _ := Ho.out.stored (k * 2) (.int .i8 lo)
        have h1 : _ ∧ _ := h0.1.stored (k * 2 + 1) (.int .i8 hi)
        refine ⟨some ⟨g, 0, none⟩, c1_, by simp, (HB.out.setCell hgw _).setCell hgw _, ?_⟩
        rw [flat_set Sp.enc_length _ _ _ hlt, List.length_set]
        exact own_low h1.1 HZ.out
    · have hr' : (inB i 0 (xs.length - 1) && inB hi 1 9 && inB lo 1 hi) = false := by simpa using hr
      rw [narrowG_range ha hr']
      rw [ha] at Hs
      have hl := h.small
      clear ha ok h
      by_cases r1 : inB i 0 (xs.length - 1) = true
      · by_cases r2 : inB lo 1 9 = true
        · have r3 : inB hi lo 9 = false := by simp [inB] at r1 r2 hr' ⊢; omega
          clear hr hr'
          go_enter Try.func24, Try.ntmps24
          go_wp2_with fail
          refine Hs.out.mono ?_
          rintro e w1 ⟨rfl, hb⟩
          go_wp2_with (go_at_call 66; refine (in_I _ _ _ _).mono ?_; rintro e w' ⟨rfl, rfl⟩)
          go_ret2
          exact ResS.nil hb
        · have r2' : inB lo 1 9 = false := by simpa using r2
          clear hr hr' r2
          go_enter Try.func24, Try.ntmps24
          go_wp2_with fail
          refine Hs.out.mono ?_
          rintro e w1 ⟨rfl, hb⟩
          go_wp2_with (go_at_call 66; refine (in_I _ _ _ _).mono ?_; rintro e w' ⟨rfl, rfl⟩)
          go_ret2
          exact ResS.nil hb
      · have r1' : inB i 0 (xs.length - 1) = false := by simpa using r1
        clear hr hr' r1
        go_enter Try.func24, Try.ntmps24
        go_wp2_with fail
        refine Hs.out.mono ?_
        rintro e w1 ⟨rfl, hb⟩
        go_wp2_with (go_at_call 66; refine (in_I _ _ _ _).mono ?_; rintro e w' ⟨rfl, rfl⟩)
        go_ret2
        exact ResS.nil hb
  · have ha' : xs.all spOk = false := by simpa using ha
    rw [narrowG_bad ha']
    rw [ha'] at Hs
    clear ha ha' ok h
    go_enter Try.func24, Try.ntmps24
    go_wp2_with fail
    refine Hs.out.mono ?_
    rintro e w1 ⟨rfl, hb⟩
    go_wp2_with fail
    go_ret2
    exact ResS.nil hb
def NarrowSpanG (xs : List Sp) (i lo hi : Int) : List Sp × Int := narrowG xs i lo hi
theorem NarrowSpan_len (xs : List Sp) (i lo hi : Int) (h : xs.length ≤ 1048576) : (NarrowSpanG xs i lo hi).1.length ≤ 1048576 := by
  unfold NarrowSpanG narrowG
  repeat' split
  all_goals simp [h]
theorem NarrowSpan_S (w : World) (a : Option Addr) (c : Nat) (xs : List Sp) (h : SlA Sp.enc 2 w a xs) (hc : a = none → c = 0) (ok : ∀ p ∈ xs, p.Ok) (hs : xs.length ≤ 1048576) (i : Int) (_ : -9223372036854775808 ≤ i) (_ : i ≤ 9223372036854775807) (lo : Int) (_ : -9223372036854775808 ≤ lo) (_ : lo ≤ 9223372036854775807) (hi : Int) (_ : -9223372036854775808 ≤ hi) (_ : hi ≤ 9223372036854775807) :
    Calls Try.prog 22 #[.slice a xs.length c, .int .i64 i, .int .i64 lo, .int .i64 hi] w (ResS Sp.enc 2 98 w (NarrowSpanG xs i lo hi).1 (NarrowSpanG xs i lo hi).2) := Narrow_S a c xs i lo hi w h ok hs
theorem NarrowSpan_I (w : World) (a : Option Addr) (c : Nat) (xs : List Sp) (h : SlA Sp.enc 2 w a xs) (hc : a = none → c = 0) (ok : ∀ p ∈ xs, p.Ok) (hs : xs.length ≤ 1048576) (i : Int) (_ : -9223372036854775808 ≤ i) (_ : i ≤ 9223372036854775807) (lo : Int) (_ : -9223372036854775808 ≤ lo) (_ : lo ≤ 9223372036854775807) (hi : Int) (_ : -9223372036854775808 ≤ hi) (_ : hi ≤ 9223372036854775807) :
    Calls Try.prog 24 #[.slice a xs.length c, .int .i64 i, .int .i64 lo, .int .i64 hi] w (ResS Sp.enc 2 98 w (NarrowSpanG xs i lo hi).1 (NarrowSpanG xs i lo hi).2) := Narrow_I a c xs i lo hi w h hc ok hs
end Go.Proofs.Ytnoiendelcidbaa
