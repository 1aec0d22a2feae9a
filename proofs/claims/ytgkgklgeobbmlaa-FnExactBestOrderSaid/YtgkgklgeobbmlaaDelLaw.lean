/-
  Plain law: lines that are made longer till they bear a delay; pieces that are made slow.
  Conditions: none; plain law.
-/
import Derived.Test.YtgkgklgeobbmlaaLineX
import Derived.Test.YtgkgklgeobbmlaaLineE
import Derived.Test.YtgkgklgeobbmlaaLineY
import Derived.Test.YtgkgklgeobbmlaaLonger
namespace Go.Proofs.Ytgkgklgeobbmlaa
open Go.RowKit
set_option linter.unusedSimpArgs false
set_option linter.unusedVariables false

/-- A line for a way: free cells from its first one to its last one. -/
structure LnOk (wi hi : Int) (xs : List Pc) (p : Wy) (P : List Ce) : Prop where
  line : LineOk P p.sd p.ou
  fr : ∀ q ∈ P, freeG wi hi xs q.x q.y = true
  head : P[0]? = some ⟨p.fx, p.fy⟩
  last : P[P.length - 1]? = some ⟨p.tx, p.ty⟩
theorem short_ln {wi hi : Int} {xs : List Pc} {p : Wy} (hv : wayB wi hi xs p = true) (h0 : (shortG wi hi xs p).2 = 0) : LnOk wi hi xs p (shortG wi hi xs p).1 := by
  obtain ⟨hf, ht, hsd, hou, hone⟩ := way_parts hv
  unfold shortG at h0 ⊢
  by_cases hd : farD wi hi xs p.fx p.fy p.tx p.ty < 0
  · rw [if_pos hd] at h0
    exact absurd (show (6 : Int) = 0 from h0) (by decide)
  · rw [if_neg hd] at h0 ⊢
    cases he : endsB p (pathW wi hi xs p) with
    | true =>
      rw [he, if_pos rfl] at h0
      exact absurd (show (4 : Int) = 0 from h0) (by decide)
    | false =>
      rw [if_neg (by simp)]
      have hway := path_way hf (by omega)
      unfold endsB at he
      rw [Bool.or_eq_false_iff] at he
      refine ⟨way_line hway hsd hou hone (fun hm => ?_) (fun hm => ?_), hway.fr, hway.head, ?_⟩
      · rw [isC_mem.2 hm] at he
        cases he.1
      · rw [isC_mem.2 hm] at he
        cases he.2
      · have hl := hway.len
        show (pathW wi hi xs p)[(pathW wi hi xs p).length - 1]? = _
        rw [hl, Nat.add_sub_cancel]
        exact hway.last
theorem nx_comm (x s t : Int) : nx (nx x s) t = nx (nx x t) s := by
  unfold nx
  split <;> split <;> (try split) <;> (try split) <;> omega
theorem ny_comm (y s t : Int) : ny (ny y s) t = ny (ny y t) s := by
  unfold ny
  split <;> split <;> (try split) <;> (try split) <;> omega
theorem nd_of {P : List Ce} (h : ∀ (i j : Nat) (p : Ce), P[i]? = some p → P[j]? = some p → i = j) : P.Nodup := by
  unfold List.Nodup
  rw [List.pairwise_iff_getElem]
  intro i j hi hj hij he
  have e1 : P[i]? = some P[i] := List.getElem?_eq_getElem hi
  have e2 : P[j]? = some P[j] := List.getElem?_eq_getElem hj
  have := h i j P[j] (by rw [e1, he]) e2
  omega
theorem of_nd {P : List Ce} (h : P.Nodup) : ∀ (i j : Nat) (p : Ce), P[i]? = some p → P[j]? = some p → i = j := fun i j p hi hj =>
  (List.getElem?_inj (List.getElem?_eq_some_iff.1 hi).1 h).1 (by rw [hi, hj])
theorem any_not {P : List Ce} {x y : Int} (h : (!P.any (isC x y)) = true) : (⟨x, y⟩ : Ce) ∉ P := fun hm => by
  rw [isC_mem.2 hm] at h
  cases h
theorem find_some {p : Nat → Bool} {m k : Nat} (h : (List.range m).find? p = some k) : p k = true ∧ k < m := by
  rw [List.find?_range_eq_some] at h
  exact ⟨h.1, List.mem_range.1 h.2.1⟩
/-- What is known of the place where a line is made longer. -/
theorem longer_yes {wi hi : Int} {xs : List Pc} {P B R : List Ce} (h : longerG wi hi xs P B = (R, true)) :
    ∃ (i s : Nat) (a b : Ce), s < 4 ∧ P[i]? = some a ∧ P[i + 1]? = some b ∧ okL wi hi xs P B a b (s : Nat) = true ∧ R = P.take (i + 1) ++ ([⟨nx a.x (s : Nat), ny a.y (s : Nat)⟩, ⟨nx b.x (s : Nat), ny b.y (s : Nat)⟩] ++ P.drop (i + 1)) := by
  unfold longerG at h
  split at h
  · rename_i k hk
    obtain ⟨h1, h2⟩ := find_some hk
    unfold okK at h1
    have hi1 : k / 4 + 1 < P.length := by omega
    have e1 : P[k / 4]? = some P[k / 4] := List.getElem?_eq_getElem (by omega)
    have e2 : P[k / 4 + 1]? = some P[k / 4 + 1] := List.getElem?_eq_getElem hi1
    rw [e1, e2] at h1
    refine ⟨k / 4, k % 4, _, _, by omega, e1, e2, h1, ?_⟩
    injection h with h _
    rw [← h]
    unfold insL
    rw [e1, e2]
    simp
  · injection h with _ h
    cases h
theorem ins_at {P : List Ce} {i : Nat} {x y : Ce} (hi : i + 1 < P.length) (k : Nat) : (P.take (i + 1) ++ ([x, y] ++ P.drop (i + 1)))[k]? = if k ≤ i then P[k]? else if k = i + 1 then some x else if k = i + 2 then some y else P[k - 2]? := by
  have hl : (P.take (i + 1)).length = i + 1 := by rw [List.length_take]; omega
  by_cases h1 : k ≤ i
  · rw [if_pos h1, List.getElem?_append_left (by rw [hl]; omega), List.getElem?_take, if_pos (by omega)]
  · rw [if_neg h1, List.getElem?_append_right (by rw [hl]; omega), hl]
    by_cases h2 : k = i + 1
    · rw [if_pos h2, h2, Nat.sub_self]; rfl
    · rw [if_neg h2]
      by_cases h3 : k = i + 2
      · rw [if_pos h3, h3, show i + 2 - (i + 1) = 1 by omega]; rfl
      · rw [if_neg h3, List.getElem?_append_right (by show 2 ≤ _; omega), List.getElem?_drop]
        show P[i + 1 + (k - (i + 1) - 2)]? = _
        congr 1
        omega
theorem longer_len {wi hi : Int} {xs : List Pc} {P B R : List Ce} (h : longerG wi hi xs P B = (R, true)) : R.length = P.length + 2 := by
  obtain ⟨i, s, a, b, hs, ha, hb, hok, rfl⟩ := longer_yes h
  have := (List.getElem?_eq_some_iff.1 hb).1
  rw [List.length_append, List.length_append, List.length_take, List.length_drop, List.length_cons, List.length_singleton]
  omega
theorem longer_ln {wi hi : Int} {xs : List Pc} {p : Wy} {P R : List Ce} (h : LnOk wi hi xs p P) (hl : longerG wi hi xs P (endsL p) = (R, true)) : LnOk wi hi xs p R := by
  have hlen := longer_len hl
  obtain ⟨i, s, a, b, hs, ha, hb, hok, rfl⟩ := longer_yes hl
  have hi1 := (List.getElem?_eq_some_iff.1 hb).1
  unfold okL at hok
  simp only [Bool.and_eq_true] at hok
  obtain ⟨f1, f2, n1, n2, e1, e2⟩ := hok
  have n1 := any_not n1
  have n2 := any_not n2
  have e1 := any_not e1
  have e2 := any_not e2
  have hat := fun k => ins_at (P := P) (x := ⟨nx a.x (s : Nat), ny a.y (s : Nat)⟩) (y := ⟨nx b.x (s : Nat), ny b.y (s : Nat)⟩) hi1 k
  have hmem : ∀ q, q ∈ P.take (i + 1) ++ ([(⟨nx a.x (s : Nat), ny a.y (s : Nat)⟩ : Ce), ⟨nx b.x (s : Nat), ny b.y (s : Nat)⟩] ++ P.drop (i + 1)) → q ∈ P ∨ q = ⟨nx a.x (s : Nat), ny a.y (s : Nat)⟩ ∨ q = ⟨nx b.x (s : Nat), ny b.y (s : Nat)⟩ := fun q hq => by
    simp only [List.mem_append, List.mem_cons, List.not_mem_nil, or_false] at hq
    rcases hq with hq | (hq | hq) | hq
    · exact .inl (List.mem_of_mem_take hq)
    · exact .inr (.inl hq)
    · exact .inr (.inr hq)
    · exact .inl (List.mem_of_mem_drop hq)
  obtain ⟨⟨t, ht, hab⟩, _⟩ := h.line.adj i a b ha hb
  have hxy : (⟨nx a.x (s : Nat), ny a.y (s : Nat)⟩ : Ce) ≠ ⟨nx b.x (s : Nat), ny b.y (s : Nat)⟩ := fun e => by
    rw [Ce.mk.injEq] at e
    have h1 := nx_back a.x s hs
    have h2 := ny_back a.y s hs
    rw [e.1, nx_back b.x s hs] at h1
    rw [e.2, ny_back b.y s hs] at h2
    have : a = b := by cases a; cases b; simp_all
    have := h.line.nd i (i + 1) a ha (by rw [this]; exact hb)
    omega
  have hnd := nd_of h.line.nd
  have hperm : (P.take (i + 1) ++ ([(⟨nx a.x (s : Nat), ny a.y (s : Nat)⟩ : Ce), ⟨nx b.x (s : Nat), ny b.y (s : Nat)⟩] ++ P.drop (i + 1))).Perm ([(⟨nx a.x (s : Nat), ny a.y (s : Nat)⟩ : Ce), ⟨nx b.x (s : Nat), ny b.y (s : Nat)⟩] ++ P) := by
    have h1 := (List.perm_append_comm (l₁ := P.take (i + 1)) (l₂ := [(⟨nx a.x (s : Nat), ny a.y (s : Nat)⟩ : Ce), ⟨nx b.x (s : Nat), ny b.y (s : Nat)⟩])).append_right (P.drop (i + 1))
    rw [List.append_assoc, List.append_assoc, List.take_append_drop] at h1
    exact h1
  have hnd2 : (P.take (i + 1) ++ ([(⟨nx a.x (s : Nat), ny a.y (s : Nat)⟩ : Ce), ⟨nx b.x (s : Nat), ny b.y (s : Nat)⟩] ++ P.drop (i + 1))).Nodup := by
    rw [hperm.nodup_iff]
    show (_ :: _ :: P).Nodup
    rw [List.nodup_cons, List.nodup_cons]
    exact ⟨fun hm => (List.mem_cons.1 hm).elim (fun h => hxy h) (fun h => n1 h), n2, hnd⟩
  have h0at : (P.take (i + 1) ++ ([(⟨nx a.x (s : Nat), ny a.y (s : Nat)⟩ : Ce), ⟨nx b.x (s : Nat), ny b.y (s : Nat)⟩] ++ P.drop (i + 1)))[0]? = P[0]? := by rw [hat, if_pos (Nat.zero_le _)]
  have hlast : (P.take (i + 1) ++ ([(⟨nx a.x (s : Nat), ny a.y (s : Nat)⟩ : Ce), ⟨nx b.x (s : Nat), ny b.y (s : Nat)⟩] ++ P.drop (i + 1)))[P.length + 2 - 1]? = P[P.length - 1]? := by
    rw [hat, if_neg (by omega), if_neg (by omega), if_neg (by omega)]
    congr 1
  rw [← hlen] at hlast
  generalize P.take (i + 1) ++ ([(⟨nx a.x (s : Nat), ny a.y (s : Nat)⟩ : Ce), ⟨nx b.x (s : Nat), ny b.y (s : Nat)⟩] ++ P.drop (i + 1)) = R at *
  refine ⟨⟨by omega, h.line.sd, h.line.ot, fun hn => by omega, fun k q r hq hr => ?_, of_nd hnd2, fun q hq k hk => ?_, fun q hq k hk => ?_⟩, fun q hq => ?_, by rw [h0at]; exact h.head, by rw [hlast]; exact h.last⟩
  · rw [hat] at hq hr
    by_cases c1 : k + 1 ≤ i
    · rw [if_pos (by omega)] at hq hr
      exact h.line.adj k q r hq hr
    · by_cases c2 : k = i
      · subst c2
        rw [if_pos (Nat.le_refl _), ha] at hq
        rw [if_neg c1, if_pos rfl] at hr
        injection hq with hq
        injection hr with hr
        subst hq
        subst hr
        refine ⟨⟨s, hs, rfl⟩, ⟨(s + 2) % 4, by omega, ?_⟩⟩
        rw [nx_back _ s hs, ny_back _ s hs]
      · rw [if_neg (by omega)] at hq
        rw [if_neg c1] at hr
        by_cases c3 : k = i + 1
        · subst c3
          rw [if_pos rfl] at hq
          rw [if_neg (by omega), if_pos rfl] at hr
          injection hq with hq
          injection hr with hr
          subst hq
          subst hr
          rw [hab]
          refine ⟨⟨t, ht, ?_⟩, ⟨(t + 2) % 4, by omega, ?_⟩⟩
          · rw [nx_comm, ny_comm]
          · show (⟨nx a.x (s : Nat), ny a.y (s : Nat)⟩ : Ce) = ⟨nx (nx (nx a.x (t : Nat)) (s : Nat)) _, ny (ny (ny a.y (t : Nat)) (s : Nat)) _⟩
            rw [nx_comm a.x, ny_comm a.y, nx_back _ t ht, ny_back _ t ht]
        · rw [if_neg c3] at hq
          rw [if_neg (by omega)] at hr
          by_cases c4 : k = i + 2
          · subst c4
            rw [if_pos rfl] at hq
            rw [if_neg (by omega), show i + 2 + 1 - 2 = i + 1 by omega, hb] at hr
            injection hq with hq
            injection hr with hr
            subst hq
            subst hr
            refine ⟨⟨(s + 2) % 4, by omega, ?_⟩, ⟨s, hs, rfl⟩⟩
            show b = ⟨nx (nx b.x (s : Nat)) _, ny (ny b.y (s : Nat)) _⟩
            rw [nx_back _ s hs, ny_back _ s hs]
          · rw [if_neg c4] at hq
            rw [if_neg (by omega)] at hr
            exact h.line.adj (k - 2) q r hq (by rw [show k - 2 + 1 = k + 1 - 2 by omega]; exact hr)
  · rw [h0at, h.head] at hq
    injection hq with hq
    subst hq
    rcases hmem _ (List.mem_of_getElem? hk) with hm | hm | hm
    · obtain ⟨j, hj⟩ := List.mem_iff_getElem?.1 hm
      exact h.line.h0 _ h.head j hj
    · exact e1 (by rw [← hm]; exact List.mem_cons_self)
    · exact e2 (by rw [← hm]; exact List.mem_cons_self)
  · rw [hlast, h.last] at hq
    injection hq with hq
    subst hq
    rcases hmem _ (List.mem_of_getElem? hk) with hm | hm | hm
    · obtain ⟨j, hj⟩ := List.mem_iff_getElem?.1 hm
      exact h.line.h1 _ h.last j hj
    · exact e1 (by rw [← hm]; exact List.mem_cons_of_mem _ List.mem_cons_self)
    · exact e2 (by rw [← hm]; exact List.mem_cons_of_mem _ List.mem_cons_self)
  · rcases hmem q hq with hm | hm | hm
    · exact h.fr q hm
    · rw [hm]; exact f1
    · rw [hm]; exact f2
/-- A line on a board is a path. -/
theorem ln_path {wi hi : Int} {xs : List Pc} {p : Wy} {P : List Ce} (h : LnOk wi hi xs p P) (hw : wi ≤ 24) (hh : hi ≤ 24) (hn : P.length ≤ 120) : pathB P = true := by
  refine pathB_true (inB_it.2 (by have := h.line.n; omega)) (fun k hk => ?_)
  have hp : P[k]? = some P[k] := List.getElem?_eq_getElem hk
  have hin := free_in (h.fr P[k] (List.getElem_mem hk))
  unfold pathAt
  rw [hp]
  dsimp only
  rw [Bool.and_eq_true, Bool.and_eq_true]
  refine ⟨?_, ?_, ?_⟩
  · unfold cellIn
    rw [Bool.and_eq_true, inB_it, inB_it]
    omega
  · rw [Bool.not_eq_true']
    cases hany : (P.take k).any (isC P[k].x P[k].y) with
    | false => rfl
    | true =>
      obtain ⟨j, hj⟩ := List.mem_iff_getElem?.1 (isC_mem.1 hany)
      rw [List.getElem?_take] at hj
      split at hj
      · rename_i hjk
        have := h.line.nd j k P[k] hj hp
        omega
      · cases hj
  · cases k with
    | zero => rfl
    | succ j =>
      have hj : P[j]? = some P[j] := List.getElem?_eq_getElem (by omega)
      obtain ⟨h1, _⟩ := h.line.adj j _ _ hj hp
      dsimp only
      rw [hj]
      dsimp only
      rw [Bool.not_eq_true', decide_eq_false_iff_not]
      exact sideG_ge h1
theorem ln_in {wi hi : Int} {xs : List Pc} {p : Wy} {P : List Ce} (h : LnOk wi hi xs p P) (hw : wi ≤ 24) (hh : hi ≤ 24) : ∀ q ∈ P, (0 ≤ q.x ∧ q.x ≤ 23) ∧ (0 ≤ q.y ∧ q.y ≤ 23) := fun q hq => by
  have := free_in (h.fr q hq)
  omega
/-- Not more cells than the board has. -/
theorem ln_len {wi hi : Int} {xs : List Pc} {p : Wy} {P : List Ce} (h : LnOk wi hi xs p P) (hw : 1 ≤ wi ∧ wi ≤ 24) (hh : 1 ≤ hi ∧ hi ≤ 24) : P.length ≤ 576 := by
  obtain ⟨m, rfl⟩ : ∃ m : Nat, wi = (m : Int) := ⟨wi.toNat, by omega⟩
  obtain ⟨n, rfl⟩ : ∃ n : Nat, hi = (n : Int) := ⟨hi.toNat, by omega⟩
  have h1 := nodup_board (wi := m) (hi := n) (nd_of h.line.nd) (fun e he => free_in (h.fr e he))
  have h2 : m * n ≤ 24 * 24 := Nat.mul_le_mul (by omega) (by omega)
  omega
/-- A line is made longer till it bears a delay. -/
def growL (wi hi : Int) (xs : List Pc) (B : List Ce) (dl : Int) : Nat → List Ce → Option (List Ce)
  | 0, P => some P
  | f + 1, P => if 9 * (P.length : Int) < dl then (if (longerG wi hi xs P B).2 = true then growL wi hi xs B dl f (longerG wi hi xs P B).1 else none) else some P
/-- How much longer it has to be: not more rounds than that. -/
def needL (dl : Int) (n : Nat) : Nat := (dl - 9 * (n : Int)).toNat
theorem grow_stop {wi hi : Int} {xs : List Pc} {B P : List Ce} {dl : Int} (h : ¬ 9 * (P.length : Int) < dl) : ∀ f, growL wi hi xs B dl f P = some P
  | 0 => rfl
  | f + 1 => by unfold growL; rw [if_neg h]
theorem grow_one {wi hi : Int} {xs : List Pc} {B : List Ce} {dl : Int} : ∀ (f : Nat) (P : List Ce), needL dl P.length ≤ f → growL wi hi xs B dl (f + 1) P = growL wi hi xs B dl f P
  | 0, P, h => by rw [grow_stop (by unfold needL at h; omega), grow_stop (by unfold needL at h; omega)]
  | f + 1, P, h => by
    by_cases hc : 9 * (P.length : Int) < dl
    · have e1 : ∀ g, growL wi hi xs B dl (g + 1) P = if (longerG wi hi xs P B).2 = true then growL wi hi xs B dl g (longerG wi hi xs P B).1 else none := fun g => by
        conv => lhs; unfold growL
        rw [if_pos hc]
      rw [e1, e1]
      by_cases hy : (longerG wi hi xs P B).2 = true
      · rw [if_pos hy, if_pos hy]
        have hln := longer_len (show longerG wi hi xs P B = ((longerG wi hi xs P B).1, true) by rw [← hy])
        exact grow_one f _ (by unfold needL at h ⊢; omega)
      · rw [if_neg hy, if_neg hy]
    · rw [grow_stop hc, grow_stop hc]
theorem grow_more {wi hi : Int} {xs : List Pc} {B : List Ce} {dl : Int} {P : List Ce} : ∀ (k : Nat), growL wi hi xs B dl (needL dl P.length + k) P = growL wi hi xs B dl (needL dl P.length) P
  | 0 => rfl
  | k + 1 => by
    show growL wi hi xs B dl (needL dl P.length + k + 1) P = _
    rw [grow_one _ _ (Nat.le_add_right _ _), grow_more k]
theorem grow_next {wi hi : Int} {xs : List Pc} {B P R : List Ce} {dl : Int} (h : 9 * (P.length : Int) < dl) (hl : longerG wi hi xs P B = (R, true)) : growL wi hi xs B dl (needL dl P.length) P = growL wi hi xs B dl (needL dl R.length) R := by
  have hR := longer_len hl
  obtain ⟨g, hg⟩ : ∃ g, needL dl P.length = g + 1 := ⟨needL dl P.length - 1, by unfold needL; omega⟩
  obtain ⟨k, hk⟩ : ∃ k, g = needL dl R.length + k := ⟨g - needL dl R.length, by unfold needL at hg ⊢; omega⟩
  rw [hg]
  conv => lhs; unfold growL
  rw [if_pos h, hl, if_pos rfl, hk]
  exact grow_more k
theorem grow_none {wi hi : Int} {xs : List Pc} {B P : List Ce} {dl : Int} (h : 9 * (P.length : Int) < dl) (hl : (longerG wi hi xs P B).2 = false) : growL wi hi xs B dl (needL dl P.length) P = none := by
  obtain ⟨g, hg⟩ : ∃ g, needL dl P.length = g + 1 := ⟨needL dl P.length - 1, by unfold needL; omega⟩
  rw [hg]
  conv => lhs; unfold growL
  rw [if_pos h, hl, if_neg (by decide)]
theorem need_less {dl : Int} {n : Nat} (h : 9 * (n : Int) < dl) : needL dl (n + 2) < needL dl n := by unfold needL; omega
end Go.Proofs.Ytgkgklgeobbmlaa
