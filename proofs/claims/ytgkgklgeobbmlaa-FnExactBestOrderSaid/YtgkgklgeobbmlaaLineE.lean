/-
  The ends of a way; slices.Reverse and slices.ContainsFunc at cells: the program's.
  Conditions: the fields are in their kinds' ranges.
-/
import Derived.Test.YtgkgklgeobbmlaaLineT
import Derived.Test.YtgkgklgeobbmlaaHasC
import Derived.Laws.OwnMore
import Derived.BigRegion
import Derived.BigQuiet
import Derived.Shelf.Abstract
namespace Go.Proofs.Ytgkgklgeobbmlaa
open Go.RowKit
set_option linter.unusedSimpArgs false
set_option linter.unusedVariables false

def revC (xs : List Ce) : Nat → List Ce
  | 0 => xs
  | k + 1 => ((revC xs k).set k ((revC xs k).getD (xs.length - 1 - k) ⟨0, 0⟩)).set (xs.length - 1 - k) ((revC xs k).getD k ⟨0, 0⟩)
theorem revC_len (xs : List Ce) : ∀ k, (revC xs k).length = xs.length
  | 0 => rfl
  | k + 1 => by simp [revC, revC_len xs k]
theorem revC_at (xs : List Ce) : ∀ k, 2 * k ≤ xs.length → ∀ t, t < xs.length → (revC xs k)[t]? = if t < k ∨ xs.length - k ≤ t then xs[xs.length - 1 - t]? else xs[t]?
  | 0, _, t, ht => by rw [if_neg (by omega)]; rfl
  | k + 1, hk, t, ht => by
    have ih := revC_at xs k (by omega)
    have hl := revC_len xs k
    have e1 : xs[k]? = some ((revC xs k).getD k ⟨0, 0⟩) := by
      rw [List.getD_eq_getElem?_getD, ih k (by omega), if_neg (by omega), List.getElem?_eq_getElem (by omega)]; rfl
    have e2 : xs[xs.length - 1 - k]? = some ((revC xs k).getD (xs.length - 1 - k) ⟨0, 0⟩) := by
      rw [List.getD_eq_getElem?_getD, ih (xs.length - 1 - k) (by omega), if_neg (by omega), List.getElem?_eq_getElem (by omega)]; rfl
    rw [revC, List.getElem?_set, List.getElem?_set]
    simp only [List.length_set, hl]
    by_cases h1 : xs.length - 1 - k = t
    · rw [if_pos h1, if_pos (by omega), if_pos (by omega), ← e1]
      congr 1
      omega
    · rw [if_neg h1]
      by_cases h2 : k = t
      · rw [if_pos h2, if_pos (by omega), if_pos (by omega), ← e2]
        congr 1
        omega
      · rw [if_neg h2, ih t ht]
        by_cases h3 : t < k ∨ xs.length - k ≤ t
        · rw [if_pos h3, if_pos (by omega)]
        · rw [if_neg h3, if_neg (by omega)]
theorem revC_end {xs : List Ce} {k : Nat} (h1 : 2 * k ≤ xs.length) (h2 : xs.length ≤ 2 * k + 1) : revC xs k = xs.reverse := by
  apply List.ext_getElem?
  intro t
  rcases Nat.lt_or_ge t xs.length with ht | ht
  · rw [revC_at xs k h1 t ht, List.getElem?_reverse ht]
    split
    · rfl
    · congr 1; omega
  · rw [List.getElem?_eq_none (by rw [revC_len]; exact ht), List.getElem?_eq_none (by simpa using ht)]
theorem store_gr (w : World) (q j : Nat) (v : Value) : w.grownBy (w.setCell ⟨q, j, none⟩ v) (some q) :=
  ⟨rfl, rfl, rfl, by simp, fun k _ hk => heap_setCell_other w ⟨q, j, none⟩ k v (fun e => hk (by simp [e]))⟩
theorem gr_below {w w1 : World} (row : Option Nat) (hb : Below w.heap.size w w1) : w.grownBy w1 row := ⟨hb.os, hb.tape, hb.output, hb.size, fun i hi _ => hb.block i hi⟩
theorem flatC_set {xs : List Ce} {k : Nat} (p : Ce) (hk : k < xs.length) : (xs.set k p).flatMap Ce.enc = ((xs.flatMap Ce.enc).set (k * 2) (.int .i8 p.x)).set (k * 2 + 1) (.int .i8 p.y) := flat_set Ce.enc_length xs k p hk
theorem flatC_at {xs : List Ce} {k : Nat} {p : Ce} (h : xs[k]? = some p) : (xs.flatMap Ce.enc)[k * 2]? = some (.int .i8 p.x) ∧ (xs.flatMap Ce.enc)[k * 2 + 1]? = some (.int .i8 p.y) := by
  have key : ∀ (l : List Ce) (k : Nat), l[k]? = some p → (l.flatMap Ce.enc)[k * 2]? = some (.int .i8 p.x) ∧ (l.flatMap Ce.enc)[k * 2 + 1]? = some (.int .i8 p.y) := by
    intro l
    induction l with
    | nil => intro k h; cases h
    | cons q l ih =>
      intro k h
      cases k with
      | zero =>
        injection h with h
        subst h
        exact ⟨rfl, rfl⟩
      | succ k =>
        have := ih k h
        rw [List.flatMap_cons, List.getElem?_append_right (by show 2 ≤ _; omega), List.getElem?_append_right (by show 2 ≤ _; omega)]
        have e1 : (k + 1) * 2 - q.enc.length = k * 2 := by show (k + 1) * 2 - 2 = _; omega
        have e2 : (k + 1) * 2 + 1 - q.enc.length = k * 2 + 1 := by show (k + 1) * 2 + 1 - 2 = _; omega
        rw [e1, e2]
        exact this
  exact key xs k h
set_option maxRecDepth 100000 in
set_option maxHeartbeats 2000000 in
theorem reverseC_I (xs : List Ce) (g c base : Nat) (w : World) (hn : xs.length ≤ 1048576) (own : w.ownsRow base 36 2 (.slice (some ⟨g, 0, none⟩) xs.length c) xs.length (xs.flatMap Ce.enc)) :
    Calls Try.prog 69 #[.slice (some ⟨g, 0, none⟩) xs.length c] w fun e w' => e = .returned (.tuple #[]) ∧ w.grownBy w' (some g) ∧ w'.ownsRow base 36 2 (.slice (some ⟨g, 0, none⟩) xs.length c) xs.length (xs.reverse.flatMap Ce.enc) := by
  have hO := hid own
  have HL := hid (revC_len xs)
  have HE := hid (fun k (h1 : 2 * k ≤ xs.length) (h2 : xs.length ≤ 2 * k + 1) => revC_end h1 h2)
  have HS := hid (fun k => show revC xs (k + 1) = ((revC xs k).set k ((revC xs k).getD (xs.length - 1 - k) ⟨0, 0⟩)).set (xs.length - 1 - k) ((revC xs k).getD k ⟨0, 0⟩) from rfl)
  have H0 := hid (show revC xs 0 = xs from rfl)
  generalize hR : revC xs = R at *
  generalize hrv : xs.reverse = rv at *
  generalize hn2 : xs.length = n at *
  clear own hR hn2 hrv
  go_enter Try.func69, Try.ntmps69
  have w1 : IntKind.i64.wrap ((n : Int) - 1) = (n : Int) - 1 := IntWalk.i64_in _ (by omega)
  go_wp2_with fail
  go_loopw [2, 3] (fun iv jv wr => ∃ k : Nat, 2 * k ≤ n ∧ iv = .int .i64 k ∧ jv = .int .i64 ((n : Int) - 1 - k) ∧ w.grownBy wr (some g) ∧ wr.ownsRow base 36 2 (.slice (some ⟨g, 0, none⟩) n c) n ((R k).flatMap Ce.enc)) (fun iv _ _ => n - (intOf iv).toNat)
  case atStart => exact ⟨0, by omega, rfl, by simp, World.grownBy.refl _ _, by rw [H0.out]; exact hO.out⟩
  case round =>
    obtain ⟨k, hk, rfl, rfl, hg, own⟩ := hrel
    obtain ⟨V, hV⟩ : ∃ V, V = wr := ⟨_, rfl⟩
    subst hV
    have HG := hid hg
    have HO := hid own
    by_cases hlt : 2 * k + 1 < n
    · have hd1 : (k : Int) < (n : Int) - 1 - (k : Int) := by omega
      have hd : decide ((k : Int) < (n : Int) - 1 - (k : Int)) = true := decide_eq_true hd1
      obtain ⟨j, hj⟩ : ∃ j : Nat, n - 1 - k = j := ⟨_, rfl⟩
      have hji : (n : Int) - 1 - (k : Int) = (j : Int) := by omega
      have hkj : k < j := by omega
      have hjn : j < n := by omega
      have hki : (k : Int) < (n : Int) := by omega
      have hjni : (j : Int) < (n : Int) := by omega
      obtain ⟨x, hx⟩ : ∃ x, (R k).getD k ⟨0, 0⟩ = x := ⟨_, rfl⟩
      obtain ⟨y, hy⟩ : ∃ y, (R k).getD j ⟨0, 0⟩ = y := ⟨_, rfl⟩
      have e1 : (R k)[k]? = some x := by rw [← hx, List.getD_eq_getElem?_getD, List.getElem?_eq_getElem (by rw [HL.out]; omega)]; rfl
      have e2 : (R k)[j]? = some y := by rw [← hy, List.getD_eq_getElem?_getD, List.getElem?_eq_getElem (by rw [HL.out]; omega)]; rfl
      have ck : V.cell? ⟨g, k * 2, none⟩ = some (.int .i8 x.x) := (own.cellAt (k * 2) (by omega)).trans (flatC_at e1).1
      have ck' : V.cell? ⟨g, k * 2 + 1, none⟩ = some (.int .i8 x.y) := (own.cellAt (k * 2 + 1) (by omega)).trans (flatC_at e1).2
      have cj : V.cell? ⟨g, j * 2, none⟩ = some (.int .i8 y.x) := (own.cellAt (j * 2) (by omega)).trans (flatC_at e2).1
      have cj' : V.cell? ⟨g, j * 2 + 1, none⟩ = some (.int .i8 y.y) := (own.cellAt (j * 2 + 1) (by omega)).trans (flatC_at e2).2
      have fk : V.frozen? ⟨g, k * 2, none⟩ = false := own.frozenAt _
      have fk' : V.frozen? ⟨g, k * 2 + 1, none⟩ = false := own.frozenAt _
      have fj : V.frozen? ⟨g, j * 2, none⟩ = false := own.frozenAt _
      have fj' : V.frozen? ⟨g, j * 2 + 1, none⟩ = false := own.frozenAt _
      have HST := HS.out k
      rw [hj, hx, hy] at HST
      have HST := hid HST
      have HRl := hid (HL.out k)
      rw [hji]
      clear own hg hd hd1 hx hy e1 e2
      have hd2 : decide ((k : Int) < (j : Int)) = true := by rw [decide_eq_true_iff]; omega
      have hd3 : (k : Int) < (j : Int) := by omega
      have wk : IntKind.i64.wrap ((k : Int) + 1) = (k : Int) + 1 := IntWalk.i64_in _ (by omega)
      have wj : IntKind.i64.wrap ((j : Int) - 1) = (j : Int) - 1 := IntWalk.i64_in _ (by omega)
      have n1 : k * 2 ≠ j * 2 := by omega
      have n2 : k * 2 ≠ j * 2 + 1 := by omega
      have n3 : k * 2 + 1 ≠ j * 2 := by omega
      have n4 : k * 2 + 1 ≠ j * 2 + 1 := by omega
      go_wp2_with fail
      go_region
      have st1 := (HO.out.stored (k * 2) (.int .i8 y.x)).1
      have st2 := (st1.stored (k * 2 + 1) (.int .i8 y.y)).1
      have st3 := (st2.stored (j * 2) (.int .i8 x.x)).1
      have st4 := (st3.stored (j * 2 + 1) (.int .i8 x.y)).1
      have hfl : (((((R k).flatMap Ce.enc).set (k * 2) (.int .i8 y.x)).set (k * 2 + 1) (.int .i8 y.y)).set (j * 2) (.int .i8 x.x)).set (j * 2 + 1) (.int .i8 x.y) = (R (k + 1)).flatMap Ce.enc := by
        rw [HST.out, flatC_set x (by rw [List.length_set, HRl.out]; exact hjn), flatC_set y (by rw [HRl.out]; omega)]
      rw [hfl] at st4
      have HF := hid (own_step st4 ((Below.refl _ _).drew))
      have HGF := hid ((HG.out.trans ((store_gr V g (k * 2) (.int .i8 y.x)).trans ((store_gr _ g (k * 2 + 1) (.int .i8 y.y)).trans ((store_gr _ g (j * 2) (.int .i8 x.x)).trans (store_gr _ g (j * 2 + 1) (.int .i8 x.y)))))).trans (gr_below (some g) ((Below.refl _ _).drew)))
      clear st1 st2 st3 st4 hfl ck ck' cj cj' fk fk' fj fj'
      go_wp2_with fail
      exact ⟨⟨k + 1, by omega, by go_num, congrArg (Value.int .i64) (by omega), HGF.out, HF.out⟩, by simp [intOf]; omega⟩
    · have hd1 : ¬ (k : Int) < (n : Int) - 1 - (k : Int) := by omega
      have hd : decide ((k : Int) < (n : Int) - 1 - (k : Int)) = false := decide_eq_false hd1
      clear own hg
      go_wp2_with fail
      first | go_end0 | refine bodyPost_ret (results_none rfl _ _ _) rfl ?_
      exact ⟨rfl, HG.out, by have := HO.out; rw [HE.out k hk (by omega)] at this; exact this⟩
theorem idxF_C (F : Nat) (he : ∀ args W, (callFunc F args).run Try.prog W = .ok (.enter F args) W) (cs : Array Value) (P : Ce → Bool) (a : Option Addr) (c : Nat) (xs : List Ce) (w : World) (h : SlA Ce.enc 2 w a xs) (HF : ∀ p ∈ xs, ∀ W, Below w.heap.size w W → Calls Try.prog F (#[.agg #[.int .i8 p.x, .int .i8 p.y]] ++ cs) W fun e w' => e = .returned (.bool (P p)) ∧ Below W.heap.size W w') :
    Calls Try.prog 97 #[.slice a xs.length c, .func (.func F) #[] cs] w fun e w' => e = .returned (.int .i64 (idxOf P xs)) ∧ Below w.heap.size w w' := by
  have sa := h.small
  have HF := hid HF
  go_enter Try.func97, Try.ntmps97
  go_wp2_with fail
  go_loopw [8] (fun i wr => ∃ k : Nat, k ≤ xs.length ∧ i = .int .i64 k ∧ (xs.take k).any P = false ∧ Below w.heap.size w wr) (fun i _ => xs.length - (intOf i).toNat)
  case atStart => exact ⟨0, Nat.zero_le _, rfl, rfl, Below.refl _ _⟩
  case round =>
    obtain ⟨k, hk, rfl, ht, hbl⟩ := hrel
    by_cases hlt : k < xs.length
    · obtain ⟨b1, o1, rfl, hb1, hc1⟩ := (h.below hbl).cells (by omega)
      have e1 : xs[k]? = some xs[k] := List.getElem?_eq_getElem hlt
      have Hs := hid (HF.out _ (List.getElem_mem hlt) wr hbl)
      have Hp := hid e1
      have HT := hid ht
      clear ht e1
      generalize xs[k] = p at *
      obtain ⟨r, hr⟩ : ∃ r, P p = r := ⟨_, rfl⟩
      rw [hr] at Hs
      have Hr := hid hr
      have f0 : wr.cell? ⟨b1, o1 + k * 2, none⟩ = some (.int .i8 p.x) := hc1 k _ Hp.out 0 _ rfl
      have f1 : wr.cell? ⟨b1, o1 + k * 2 + 1, none⟩ = some (.int .i8 p.y) := hc1 k _ Hp.out 1 _ rfl
      clear hr hc1
      cases r
      · go_wp2_with fail
        refine Hs.out.mono ?_
        rintro e w1 ⟨rfl, hb9⟩
        go_wp2_with fail
        exact ⟨⟨k + 1, by omega, by go_num, any_step HT.out Hp.out Hr.out, below_of hbl hbl.size hb9⟩, by simp [intOf]; omega⟩
      · go_wp2_with fail
        refine Hs.out.mono ?_
        rintro e w1 ⟨rfl, hb9⟩
        go_wp2_with fail
        go_ret
        exact ⟨ret_int (idxOf_at HT.out Hp.out Hr.out).symm, below_of hbl hbl.size hb9⟩
    · obtain rfl : k = xs.length := by omega
      have HT := hid ht
      clear ht
      go_wp2_with fail
      go_ret
      refine ⟨ret_int ?_, hbl⟩
      have := HT.out
      rw [List.take_length] at this
      exact (idxOf_none this).symm
theorem anyF_C (F : Nat) (he : ∀ args W, (callFunc F args).run Try.prog W = .ok (.enter F args) W) (cs : Array Value) (P : Ce → Bool) (a : Option Addr) (c : Nat) (xs : List Ce) (w : World) (h : SlA Ce.enc 2 w a xs) (HF : ∀ p ∈ xs, ∀ W, Below w.heap.size w W → Calls Try.prog F (#[.agg #[.int .i8 p.x, .int .i8 p.y]] ++ cs) W fun e w' => e = .returned (.bool (P p)) ∧ Below W.heap.size W w') :
    Calls Try.prog 70 #[.slice a xs.length c, .func (.func F) #[] cs] w fun e w' => e = .returned (.bool (xs.any P)) ∧ Below w.heap.size w w' := by
  have Hs := hid (idxF_C F he cs P a c xs w h HF)
  have Hr := hid (idxOf_ge P xs)
  generalize idxOf P xs = v at *
  clear h HF
  go_enter Try.func70, Try.ntmps70
  go_wp2_with fail
  refine Hs.out.mono ?_
  rintro e w1 ⟨rfl, hb⟩
  go_wp2_with fail
  go_ret
  exact ⟨ret_bool Hr.out, hb⟩
theorem shortFn_I (q : Nat) (ac : Option Addr) (cc n : Nat) (P : List Ce) (x y : Int) (w : World) (hn : n = P.length) (h : SlA Ce.enc 2 w ac P) (hq : w.cell? ⟨q, 0, none⟩ = some (.slice ac n cc)) :
    Calls Try.prog 71 #[.agg #[.int .i8 x, .int .i8 y], .pointer (some ⟨q, 0, none⟩)] w fun e w' => e = .returned (.bool (P.any (isC x y))) ∧ Below w.heap.size w w' := by
  subst hn
  obtain ⟨W0, hW0⟩ : ∃ W, W = w.alloc (Obj.cells #[.int .i8 x, .int .i8 y] 36) := ⟨_, rfl⟩
  have B0 : Below w.heap.size w W0 := by rw [hW0]; exact (Below.refl _ _).alloc (Nat.le_refl _) _
  have HC := hid (containsC_I ac cc P x y W0 (h.below B0))
  have c4 : ∀ o, (w.alloc o).cell? ⟨q, 0, none⟩ = some (.slice ac P.length cc) := fun o => cell_on ((Below.refl _ _).alloc (Nat.le_refl _) o) hq
  have HB := hid B0
  clear B0 h hq
  go_enter Try.func71, Try.ntmps71
  go_wp2_with fail
  rw [← hW0]
  refine HC.out.mono ?_
  rintro e w1 ⟨rfl, hb⟩
  have HB1 := hid (below_of HB.out HB.out.size hb)
  clear hb hW0 c4
  go_wp2_with fail
  go_ret
  exact ⟨rfl, HB1.out⟩
def endsL (p : Wy) : List Ce := [⟨nx p.fx p.sd, ny p.fy p.sd⟩, ⟨nx p.tx p.ou, ny p.ty p.ou⟩]
theorem endS_drew {w W : World} {b : Nat} {v0 v1 v2 v3 v4 v5 : Value} (h : (W.cell? ⟨b, 0, none⟩ = some v0 ∧ W.cell? ⟨b, 1, none⟩ = some v1 ∧ W.cell? ⟨b, 2, none⟩ = some v2 ∧ W.cell? ⟨b, 3, none⟩ = some v3 ∧ W.cell? ⟨b, 4, none⟩ = some v4 ∧ W.cell? ⟨b, 5, none⟩ = some v5) ∧ Below w.heap.size w W) :
    (W.drew.cell? ⟨b, 0, none⟩ = some v0 ∧ W.drew.cell? ⟨b, 1, none⟩ = some v1 ∧ W.drew.cell? ⟨b, 2, none⟩ = some v2 ∧ W.drew.cell? ⟨b, 3, none⟩ = some v3 ∧ W.drew.cell? ⟨b, 4, none⟩ = some v4 ∧ W.drew.cell? ⟨b, 5, none⟩ = some v5) ∧ Below w.heap.size w W.drew := ⟨h.1, h.2.drew⟩
theorem endS_on {w W W1 : World} {b : Nat} {v0 v1 v2 v3 v4 v5 : Value} (hb : Below W.heap.size W W1) (h : (W.cell? ⟨b, 0, none⟩ = some v0 ∧ W.cell? ⟨b, 1, none⟩ = some v1 ∧ W.cell? ⟨b, 2, none⟩ = some v2 ∧ W.cell? ⟨b, 3, none⟩ = some v3 ∧ W.cell? ⟨b, 4, none⟩ = some v4 ∧ W.cell? ⟨b, 5, none⟩ = some v5) ∧ Below w.heap.size w W) :
    (W1.cell? ⟨b, 0, none⟩ = some v0 ∧ W1.cell? ⟨b, 1, none⟩ = some v1 ∧ W1.cell? ⟨b, 2, none⟩ = some v2 ∧ W1.cell? ⟨b, 3, none⟩ = some v3 ∧ W1.cell? ⟨b, 4, none⟩ = some v4 ∧ W1.cell? ⟨b, 5, none⟩ = some v5) ∧ Below w.heap.size w W1 :=
  ⟨⟨cell_on hb h.1.1, cell_on hb h.1.2.1, cell_on hb h.1.2.2.1, cell_on hb h.1.2.2.2.1, cell_on hb h.1.2.2.2.2.1, cell_on hb h.1.2.2.2.2.2⟩, below_of h.2 h.2.size hb⟩
theorem endS_alloc {w W : World} (o : Obj) {b : Nat} {v0 v1 v2 v3 v4 v5 : Value} (h : (W.cell? ⟨b, 0, none⟩ = some v0 ∧ W.cell? ⟨b, 1, none⟩ = some v1 ∧ W.cell? ⟨b, 2, none⟩ = some v2 ∧ W.cell? ⟨b, 3, none⟩ = some v3 ∧ W.cell? ⟨b, 4, none⟩ = some v4 ∧ W.cell? ⟨b, 5, none⟩ = some v5) ∧ Below w.heap.size w W) :
    ((W.alloc o).cell? ⟨b, 0, none⟩ = some v0 ∧ (W.alloc o).cell? ⟨b, 1, none⟩ = some v1 ∧ (W.alloc o).cell? ⟨b, 2, none⟩ = some v2 ∧ (W.alloc o).cell? ⟨b, 3, none⟩ = some v3 ∧ (W.alloc o).cell? ⟨b, 4, none⟩ = some v4 ∧ (W.alloc o).cell? ⟨b, 5, none⟩ = some v5) ∧ Below w.heap.size w (W.alloc o) := endS_on ((Below.refl _ _).alloc (Nat.le_refl _) _) h
set_option maxRecDepth 100000 in
set_option maxHeartbeats 2000000 in
theorem ends_I (p : Wy) (w : World) (hf : -100 ≤ p.fx ∧ p.fx ≤ 100 ∧ -100 ≤ p.fy ∧ p.fy ≤ 100) (ht : -100 ≤ p.tx ∧ p.tx ≤ 100 ∧ -100 ≤ p.ty ∧ p.ty ≤ 100) (hs : 0 ≤ p.sd ∧ p.sd ≤ 3) (ho : 0 ≤ p.ou ∧ p.ou ≤ 3) :
    Calls Try.prog 60 #[.agg p.enc.toArray] w (ResR Ce.enc 2 36 w (endsL p)) := by
  have ws1 : IntKind.i64.wrap p.sd = p.sd := IntWalk.i64_in _ (by omega)
  have ws2 : IntKind.i64.wrap p.ou = p.ou := IntWalk.i64_in _ (by omega)
  have HE := hid (show endsL p = [⟨nx p.fx p.sd, ny p.fy p.sd⟩, ⟨nx p.tx p.ou, ny p.ty p.ou⟩] from rfl)
  generalize endsL p = EL at *
  obtain ⟨W0, hW0⟩ : ∃ W, W = w.alloc (Obj.cells p.enc.toArray 38) := ⟨_, rfl⟩
  have B0 : Below w.heap.size w W0 := by rw [hW0]; exact (Below.refl _ _).alloc (Nat.le_refl _) _
  have hW0' := hW0
  unfold Wy.enc at hW0'
  have m0 : W0.cell? ⟨w.heap.size, 0, none⟩ = some (.int .i8 p.fx) := by rw [hW0']; simp
  have m1 : W0.cell? ⟨w.heap.size, 1, none⟩ = some (.int .i8 p.fy) := by rw [hW0']; simp
  have m2 : W0.cell? ⟨w.heap.size, 2, none⟩ = some (.int .i8 p.sd) := by rw [hW0']; simp
  have m3 : W0.cell? ⟨w.heap.size, 3, none⟩ = some (.int .i8 p.tx) := by rw [hW0']; simp
  have m4 : W0.cell? ⟨w.heap.size, 4, none⟩ = some (.int .i8 p.ty) := by rw [hW0']; simp
  have m5 : W0.cell? ⟨w.heap.size, 5, none⟩ = some (.int .i8 p.ou) := by rw [hW0']; simp
  have hz0 : w.heap.size < W0.heap.size := by rw [hW0']; simp
  have HB0 := hid B0
  clear B0 hW0'
  unfold Wy.enc at hW0
  unfold Wy.enc
  go_enter Try.func60, Try.ntmps60
  go_upto_region 1 with fail
  rw [← hW0]
  clear hW0
  have hS0 : (W0.cell? ⟨w.heap.size, 0, none⟩ = some (.int .i8 p.fx) ∧ W0.cell? ⟨w.heap.size, 1, none⟩ = some (.int .i8 p.fy) ∧ W0.cell? ⟨w.heap.size, 2, none⟩ = some (.int .i8 p.sd) ∧ W0.cell? ⟨w.heap.size, 3, none⟩ = some (.int .i8 p.tx) ∧ W0.cell? ⟨w.heap.size, 4, none⟩ = some (.int .i8 p.ty) ∧ W0.cell? ⟨w.heap.size, 5, none⟩ = some (.int .i8 p.ou)) ∧ Below w.heap.size w W0 := ⟨⟨m0, m1, m2, m3, m4, m5⟩, HB0.out⟩
  have hS1 := endS_drew hS0
  clear m0 m1 m2 m3 m4 m5 hS0
  go_region_held3 (fun w' => (w'.cell? ⟨w.heap.size, 0, none⟩ = some (.int .i8 p.fx) ∧ w'.cell? ⟨w.heap.size, 1, none⟩ = some (.int .i8 p.fy) ∧ w'.cell? ⟨w.heap.size, 2, none⟩ = some (.int .i8 p.sd) ∧ w'.cell? ⟨w.heap.size, 3, none⟩ = some (.int .i8 p.tx) ∧ w'.cell? ⟨w.heap.size, 4, none⟩ = some (.int .i8 p.ty) ∧ w'.cell? ⟨w.heap.size, 5, none⟩ = some (.int .i8 p.ou)) ∧ Below w.heap.size w w')
    (first | with_reducible assumption | with_reducible exact hS1 | with_reducible exact endS_alloc _ R5)
    (first
      | (go_at_call 68; have mark := R4; refine (next_I _ _ _ _ ?h0 ?h1).mono ?_; (case h0 => first | with_reducible exact hf | with_reducible exact ht); (case h1 => first | with_reducible exact hs | with_reducible exact ho); rintro e5 v5 ⟨rfl, hb5⟩; have R5 := endS_on hb5 R4)
      | (go_at_call 68; refine (next_I _ _ _ _ ?h0 ?h1).mono ?_; (case h0 => first | with_reducible exact hf | with_reducible exact ht); (case h1 => first | with_reducible exact hs | with_reducible exact ho); rintro e4 v4 ⟨rfl, hb4⟩; have R4 := endS_on hb4 hS1))
  all_goals (
    go_wp2_with fail
    refine bodyPost_ret (v := .slice (some ⟨v5.heap.size, 0, none⟩) 2 2) (by simp [results, Try.results60, go_sem]) rfl ?_
    rw [HE.out]
    exact ⟨some ⟨v5.heap.size, 0, none⟩, 2, rfl, R5.2.alloc R5.2.size _, own_low (World.ownsRow_lit v5 #[.int .i8 (nx p.fx p.sd), .int .i8 (ny p.fy p.sd), .int .i8 (nx p.tx p.ou), .int .i8 (ny p.ty p.ou)] 2 (Nat.le_refl _) (by simp [maxLen]) (by simp)) R5.2.size⟩)
end Go.Proofs.Ytgkgklgeobbmlaa
