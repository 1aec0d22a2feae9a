/-
  slices.Reverse over a row of one's own of int64 numbers.
  Whether a push makes a piece fall; the piece behind another one on the critical way: the program's.
  Plain law: a push of the list makes a piece fall at its latest, just where the clock says so.
  The piece before another one on the critical way, the reference's.
  CriticalWay, both the program's and the reference's.
  Conditions: the row lies in a block of its own. the clock is right. the clock is right and at rest. the fields are in their kinds' ranges.
-/
import Derived.Test.YtnabedhhflfepaaGreatConvNu
import Derived.Test.YtnabedhhflfepaaGreatOb
import Derived.Test.YtnabedhhflfepaaGreatClkG
import Derived.Laws.OwnMore
import Derived.BigRegion
import Derived.Test.YtnabedhhflfepaaGreatWayLaw
import Derived.Test.YtnabedhhflfepaaGreatWinsOf
import Derived.BigQuiet
import Derived.Deep.QuietTactic
import Derived.Shelf.Abstract
import Derived.Test.YtnabedhhflfepaaGreatClkX
import Derived.Test.YtnabedhhflfepaaGreatGaps
namespace Go.Proofs.YtnabedhhflfepaaGreat
open Go.RowKit
set_option linter.unusedSimpArgs false
set_option linter.unusedVariables false

def revTo (xs : List Int) : Nat → List Int
  | 0 => xs
  | k + 1 => ((revTo xs k).set k ((revTo xs k).getD (xs.length - 1 - k) 0)).set (xs.length - 1 - k) ((revTo xs k).getD k 0)
theorem revTo_len (xs : List Int) : ∀ k, (revTo xs k).length = xs.length
  | 0 => rfl
  | k + 1 => by simp [revTo, revTo_len xs k]
theorem revTo_at (xs : List Int) : ∀ k, 2 * k ≤ xs.length → ∀ t, t < xs.length → (revTo xs k)[t]? = if t < k ∨ xs.length - k ≤ t then xs[xs.length - 1 - t]? else xs[t]?
  | 0, _, t, ht => by rw [if_neg (by omega)]; rfl
  | k + 1, hk, t, ht => by
    have ih := revTo_at xs k (by omega)
    have hl := revTo_len xs k
    have e1 : xs[k]? = some ((revTo xs k).getD k 0) := by
      rw [List.getD_eq_getElem?_getD, ih k (by omega), if_neg (by omega), List.getElem?_eq_getElem (by omega)]; rfl
    have e2 : xs[xs.length - 1 - k]? = some ((revTo xs k).getD (xs.length - 1 - k) 0) := by
      rw [List.getD_eq_getElem?_getD, ih (xs.length - 1 - k) (by omega), if_neg (by omega), List.getElem?_eq_getElem (by omega)]; rfl
    rw [revTo, List.getElem?_set, List.getElem?_set]
    simp only [List.length_set, hl]
    by_cases h1 : xs.length - 1 - k = t
    · rw [if_pos h1, if_pos (by omega), if_pos (by omega), ← e1]
      congr 1
      omega
    · rw [if_neg h1]
      by_cases h2 : k = t
      · rw [if_pos h2, if_pos (by omega), if_pos (by omega), ← e2]
        congr 1
        omega
      · rw [if_neg h2, ih t ht]
        by_cases h3 : t < k ∨ xs.length - k ≤ t
        · rw [if_pos h3, if_pos (by omega)]
        · rw [if_neg h3, if_neg (by omega)]
theorem revTo_end {xs : List Int} {k : Nat} (h1 : 2 * k ≤ xs.length) (h2 : xs.length ≤ 2 * k + 1) : revTo xs k = xs.reverse := by
  apply List.ext_getElem?
  intro t
  rcases Nat.lt_or_ge t xs.length with ht | ht
  · rw [revTo_at xs k h1 t ht, List.getElem?_reverse ht]
    split
    · rfl
    · congr 1; omega
  · rw [List.getElem?_eq_none (by rw [revTo_len]; exact ht), List.getElem?_eq_none (by simpa using ht)]
set_option maxRecDepth 100000 in
set_option maxHeartbeats 1000000 in
theorem reverse_I (xs : List Int) (g c base : Nat) (w : World) (hn : xs.length ≤ 1048576) (own : w.ownsRow base 2 1 (.slice (some ⟨g, 0, none⟩) xs.length c) xs.length (xs.flatMap en1)) :
    Calls Tryz.prog 57 #[.slice (some ⟨g, 0, none⟩) xs.length c] w fun e w' => e = .returned (.tuple #[]) ∧ w.grownBy w' (some g) ∧ w'.ownsRow base 2 1 (.slice (some ⟨g, 0, none⟩) xs.length c) xs.length (xs.reverse.flatMap en1) := by
  have hO := hid own
  have HL := hid (revTo_len xs)
  have HE := hid (fun k (h1 : 2 * k ≤ xs.length) (h2 : xs.length ≤ 2 * k + 1) => revTo_end h1 h2)
  have HS := hid (fun k => show revTo xs (k + 1) = ((revTo xs k).set k ((revTo xs k).getD (xs.length - 1 - k) 0)).set (xs.length - 1 - k) ((revTo xs k).getD k 0) from rfl)
  have H0 := hid (show revTo xs 0 = xs from rfl)
  generalize hR : revTo xs = R at *
  have HRV := hid (show xs.reverse = xs.reverse from rfl)
  generalize xs.reverse = rv at *
  generalize hn2 : xs.length = n at *
  clear own hR hn2 HRV
  go_enter Tryz.func57, Tryz.ntmps57
  have w1 : IntKind.i64.wrap ((n : Int) - 1) = (n : Int) - 1 := IntWalk.i64_in _ (by omega)
  go_wp2_with fail
  go_loopw [2, 3] (fun iv jv wr => ∃ k : Nat, 2 * k ≤ n ∧ iv = .int .i64 k ∧ jv = .int .i64 ((n : Int) - 1 - k) ∧ w.grownBy wr (some g) ∧ wr.ownsRow base 2 1 (.slice (some ⟨g, 0, none⟩) n c) n ((R k).flatMap en1)) (fun iv _ _ => n - (intOf iv).toNat)
  case atStart => exact ⟨0, by omega, rfl, by simp, World.grownBy.refl _ _, by rw [H0.out]; exact hO.out⟩
  case round =>
    obtain ⟨k, hk, rfl, rfl, hg, own⟩ := hrel
    obtain ⟨V, hV⟩ : ∃ V, V = wr := ⟨_, rfl⟩
    subst hV
    have HG := hid hg
    have HO := hid own
    by_cases hlt : 2 * k + 1 < n
    · have hd1 : (k : Int) < (n : Int) - 1 - (k : Int) := by omega
      have hd : decide ((k : Int) < (n : Int) - 1 - (k : Int)) = true := decide_eq_true hd1
      obtain ⟨j, hj⟩ : ∃ j : Nat, n - 1 - k = j := ⟨_, rfl⟩
      have hji : (n : Int) - 1 - (k : Int) = (j : Int) := by omega
      have hkj : k < j := by omega
      have hjn : j < n := by omega
      have hki : (k : Int) < (n : Int) := by omega
      have hjni : (j : Int) < (n : Int) := by omega
      obtain ⟨x, hx⟩ : ∃ x, (R k).getD k 0 = x := ⟨_, rfl⟩
      obtain ⟨y, hy⟩ : ∃ y, (R k).getD j 0 = y := ⟨_, rfl⟩
      have e1 : (R k)[k]? = some x := by rw [← hx, List.getD_eq_getElem?_getD, List.getElem?_eq_getElem (by rw [HL.out]; omega)]; rfl
      have e2 : (R k)[j]? = some y := by rw [← hy, List.getD_eq_getElem?_getD, List.getElem?_eq_getElem (by rw [HL.out]; omega)]; rfl
      have ck : V.cell? ⟨g, k, none⟩ = some (.int .i64 x) := (own.cellAt k (by omega)).trans (by rw [en1_flat, List.getElem?_map, e1]; rfl)
      have cj : V.cell? ⟨g, j, none⟩ = some (.int .i64 y) := (own.cellAt j (by omega)).trans (by rw [en1_flat, List.getElem?_map, e2]; rfl)
      have fk : V.frozen? ⟨g, k, none⟩ = false := own.frozenAt _
      have fj : V.frozen? ⟨g, j, none⟩ = false := own.frozenAt _
      have HST := HS.out k
      rw [hj, hx, hy] at HST
      have HST := hid HST
      rw [hji]
      clear own hg hd hd1 hx hy e1 e2
      have hd2 : decide ((k : Int) < (j : Int)) = true := by rw [decide_eq_true_iff]; omega
      have hd3 : (k : Int) < (j : Int) := by omega
      have wk : IntKind.i64.wrap ((k : Int) + 1) = (k : Int) + 1 := IntWalk.i64_in _ (by omega)
      have wj : IntKind.i64.wrap ((j : Int) - 1) = (j : Int) - 1 := IntWalk.i64_in _ (by omega)
      go_wp2_with fail
      go_region
      have st1 := (HO.out.stored k (.int .i64 y)).1
      have st2 := (st1.stored j (.int .i64 x)).1
      have hfl : (((R k).flatMap en1).set k (.int .i64 y)).set j (.int .i64 x) = (R (k + 1)).flatMap en1 := by
        rw [HST.out, en1_flat, en1_flat, List.map_set, List.map_set]
      rw [hfl] at st2
      have HF := hid (own_step st2 ((Below.refl _ _).drew))
      have HGF := hid ((HG.out.trans ((store_grown V g k (.int .i64 y)).trans (store_grown _ g j (.int .i64 x)))).trans (grown_of (some g) ((Below.refl _ _).drew)))
      clear st1 st2 hfl
      go_wp2_with fail
      exact ⟨⟨k + 1, by omega, by go_num, congrArg (Value.int .i64) (by omega), HGF.out, HF.out⟩, by simp [intOf]; omega⟩
    · have hd1 : ¬ (k : Int) < (n : Int) - 1 - (k : Int) := by omega
      have hd : decide ((k : Int) < (n : Int) - 1 - (k : Int)) = false := decide_eq_false hd1
      clear own hg
      go_wp2_with fail
      first | go_end0 | refine bodyPost_ret (results_none rfl _ _ _) rfl ?_
      exact ⟨rfl, HG.out, by have := HO.out; rw [HE.out k hk (by omega)] at this; exact this⟩
theorem idx_Ht (F : Nat) (he : ∀ args W, (callFunc F args).run Tryz.prog W = .ok (.enter F args) W) (cs : Array Value) (P : Q4 → Bool) (a : Option Addr) (c : Nat) (xs : List Q4) (w : World) (h : SlA Q4.e64 4 w a xs) (HF : ∀ p ∈ xs, ∀ W, Below w.heap.size w W → Calls Tryz.prog F (#[.agg p.e64.toArray] ++ cs) W fun e w' => e = .returned (.bool (P p)) ∧ Below W.heap.size W w') :
    Calls Tryz.prog 111 #[.slice a xs.length c, .func (.func F) #[] cs] w fun e w' => e = .returned (.int .i64 (idxOf P xs)) ∧ Below w.heap.size w w' := by
  have sa := h.small
  have HF := hid HF
  go_enter Tryz.func111, Tryz.ntmps111
  go_wp2_with fail
  go_loopw [8] (fun i wr => ∃ k : Nat, k ≤ xs.length ∧ i = .int .i64 k ∧ (xs.take k).any P = false ∧ Below w.heap.size w wr) (fun i _ => xs.length - (intOf i).toNat)
  case atStart => exact ⟨0, Nat.zero_le _, rfl, rfl, Below.refl _ _⟩
  case round =>
    obtain ⟨k, hk, rfl, ht, hbl⟩ := hrel
    by_cases hlt : k < xs.length
    · obtain ⟨b1, o1, rfl, hb1, hc1⟩ := (h.below hbl).cells (by omega)
      have e1 : xs[k]? = some xs[k] := List.getElem?_eq_getElem hlt
      have Hs := hid (HF.out _ (List.getElem_mem hlt) wr hbl)
      have Hp := hid e1
      have HT := hid ht
      clear ht e1
      generalize xs[k] = p at *
      obtain ⟨r, hr⟩ : ∃ r, P p = r := ⟨_, rfl⟩
      rw [hr] at Hs
      have Hr := hid hr
      have f0 : wr.cell? ⟨b1, o1 + k * 4, none⟩ = some (.int .i64 p.a) := hc1 k _ Hp.out 0 _ rfl
      have f1 : wr.cell? ⟨b1, o1 + k * 4 + 1, none⟩ = some (.int .i64 p.b) := hc1 k _ Hp.out 1 _ rfl
      have f2 : wr.cell? ⟨b1, o1 + k * 4 + 2, none⟩ = some (.int .i64 p.c) := hc1 k _ Hp.out 2 _ rfl
      have f3 : wr.cell? ⟨b1, o1 + k * 4 + 3, none⟩ = some (.int .i64 p.d) := hc1 k _ Hp.out 3 _ rfl
      clear hr hc1
      cases r
      · go_wp2_with fail
        refine Hs.out.mono ?_
        rintro e w1 ⟨rfl, hb9⟩
        go_wp2_with fail
        exact ⟨⟨k + 1, by omega, by go_num, any_step HT.out Hp.out Hr.out, below_of hbl hbl.size hb9⟩, by simp [intOf]; omega⟩
      · go_wp2_with fail
        refine Hs.out.mono ?_
        rintro e w1 ⟨rfl, hb9⟩
        go_wp2_with fail
        go_ret
        exact ⟨ret_int (idxOf_at HT.out Hp.out Hr.out).symm, below_of hbl hbl.size hb9⟩
    · obtain rfl : k = xs.length := by omega
      have HT := hid ht
      clear ht
      go_wp2_with fail
      go_ret
      refine ⟨ret_int ?_, hbl⟩
      have := HT.out
      rw [List.take_length] at this
      exact (idxOf_none this).symm
theorem has_Ht (F : Nat) (he : ∀ args W, (callFunc F args).run Tryz.prog W = .ok (.enter F args) W) (cs : Array Value) (P : Q4 → Bool) (a : Option Addr) (c : Nat) (xs : List Q4) (w : World) (h : SlA Q4.e64 4 w a xs) (HF : ∀ p ∈ xs, ∀ W, Below w.heap.size w W → Calls Tryz.prog F (#[.agg p.e64.toArray] ++ cs) W fun e w' => e = .returned (.bool (P p)) ∧ Below W.heap.size W w') :
    Calls Tryz.prog 83 #[.slice a xs.length c, .func (.func F) #[] cs] w fun e w' => e = .returned (.bool (xs.any P)) ∧ Below w.heap.size w w' := by
  have Hs := hid (idx_Ht F he cs P a c xs w h HF)
  have Hr := hid (idxOf_ge P xs)
  have hl := h.small
  have hm := idxOf_le P xs
  clear h HF
  generalize idxOf P xs = q at *
  go_enter Tryz.func83, Tryz.ntmps83
  go_wp2_with fail
  refine Hs.out.mono ?_
  rintro e w1 ⟨rfl, hb⟩
  go_wp2_with fail
  go_ret
  exact ⟨ret_bool Hr.out, hb⟩
theorem quiet_eq {P : Program} {f : FuncId} {args : Array Value} {w : World} {n : Nat} {v : Value} (h : Calls P f args (w.drewN n) fun e w' => e = .returned v ∧ w.drewN n = w') : Calls P f args (w.drewN n) fun e w'' => e = .returned v ∧ ∃ m, w'' = w.drewN m :=
  h.mono fun _ _ ⟨he, hm⟩ => ⟨he, n, hm.symm⟩
theorem can_cell {w : World} {D : TmgD} (hT : Tmg w D) {i : Nat} (hi : i < D.T.xs.length) : ∃ b1 o1 bits, w.cell? ⟨D.T.sb, 1, none⟩ = some (.slice (some ⟨b1, o1, none⟩) D.T.xs.length D.T.cc) ∧ w.cell? ⟨b1, o1 + i, none⟩ = some (.int .u8 bits) ∧ (0 ≤ bits ∧ bits ≤ 15) ∧ ∀ s, s < 4 → bitI bits s = D.net.can i s := by
  obtain ⟨b1, o1, ha, hb1, hc1⟩ := hT.st.cn.cells (by simp [canL]; omega)
  have e1 : (canL D.T.xs)[i]? = some (sBits (canP D.T.xs[i])) := by simp [canL, List.getElem?_map, List.getElem?_eq_getElem hi]
  have s1 := hT.st.c1
  rw [ha] at s1
  refine ⟨b1, o1, sBits (canP D.T.xs[i]), s1, ?_, sBits_in _, fun s hs => ?_⟩
  · have := hc1 i _ e1 0 _ rfl
    simpa using this
  · rw [sBits_has _ hs, can_at hi]
set_option maxRecDepth 1000000 in
set_option maxHeartbeats 1000000 in
theorem pushed1_I (D : TmgD) (i t s : Nat) (ha hb hd : Int) (bi bt bx : Nat) (w : World) (hT : Tmg w D) (hi : i < D.T.xs.length) (hn : D.T.xs.length ≤ 60) (hs : s < 4)
    (ci : w.cell? ⟨bi, 0, none⟩ = some (.int .i64 i)) (ct : w.cell? ⟨bt, 0, none⟩ = some (.int .i64 t)) (cx : w.cell? ⟨bx, 0, none⟩ = some (.pointer (some ⟨D.tb, 0, none⟩))) :
    Calls Tryz.prog 84 #[.agg #[.int .i64 ha, .int .i64 hb, .int .i64 s, .int .i64 hd], .pointer (some ⟨bi, 0, none⟩), .pointer (some ⟨bt, 0, none⟩), .pointer (some ⟨bx, 0, none⟩)] w fun e w' =>
      e = .returned (.bool (decide (hb = i) && decide (ha = t) && D.net.can i s)) ∧ Below w.heap.size w w' := by
  obtain ⟨b1, o1, bits, s1, cc, hbits, hbit⟩ := can_cell hT hi
  have t0 := hT.c0
  obtain ⟨W1, hW1⟩ : ∃ W, W = w.alloc (.cells #[.int .i64 ha, .int .i64 hb, .int .i64 s, .int .i64 hd] 150) := ⟨_, rfl⟩
  have B1 : Below w.heap.size w W1 := by rw [hW1]; exact (Below.refl _ _).alloc (Nat.le_refl _) _
  have x0 : W1.cell? ⟨w.heap.size, 0, none⟩ = some (.int .i64 ha) := by rw [hW1]; simp [go_sem]
  have x1 : W1.cell? ⟨w.heap.size, 1, none⟩ = some (.int .i64 hb) := by rw [hW1]; simp [go_sem]
  have x2 : W1.cell? ⟨w.heap.size, 2, none⟩ = some (.int .i64 s) := by rw [hW1]; simp [go_sem]
  have ci1 := cell_on B1 ci
  have ct1 := cell_on B1 ct
  have cx1 := cell_on B1 cx
  have t01 := cell_on B1 t0
  have s11 := cell_on B1 s1
  have cc1 := cell_on B1 cc
  have hii : (i : Int) < (D.T.xs.length : Int) := by omega
  have hi0 : (0 : Int) ≤ (i : Int) := by omega
  have HB := hid B1
  have HH := hid (fun W => has_V bits s W hbits hs)
  have hcan := hbit s hs
  obtain ⟨d, hd'⟩ : ∃ d, D.net.can i s = d := ⟨_, rfl⟩
  rw [hcan, hd'] at HH
  rw [hd']
  clear hbit hcan hd' hT ci ct cx t0 s1 cc B1
  by_cases h1 : hb = i
  · subst h1
    by_cases h2 : ha = t
    · subst h2
      have e1 : decide ((i : Int) = (i : Int)) = true := by simp
      have e2 : decide ((t : Int) = (t : Int)) = true := by simp
      go_enter Tryz.func84, Tryz.ntmps84
      go_upto_region 1 with fail
      rw [← hW1]
      clear hW1
      go_quiet ((go_at_call 85; exact quiet_eq (HH.out _)))
      go_wp2_with fail
      go_ret
      exact ⟨ret_bool (by simp), below_drewN HB.out _⟩
    · have e2 : decide (ha = (t : Int)) = false := decide_eq_false h2
      have e3 : (ha == (t : Int)) = false := by simpa using h2
      go_enter Tryz.func84, Tryz.ntmps84
      go_upto_region 1 with fail
      rw [← hW1]
      clear hW1
      go_quiet (fail)
      go_wp2_with fail
      go_ret
      exact ⟨ret_bool (by simp [h2]), below_drewN HB.out _⟩
  · have e1 : decide (hb = (i : Int)) = false := decide_eq_false h1
    have e3 : (hb == (i : Int)) = false := by simpa using h1
    go_enter Tryz.func84, Tryz.ntmps84
    go_upto_region 1 with fail
    rw [← hW1]
    clear hW1
    go_quiet (fail)
    go_wp2_with fail
    go_ret
    exact ⟨ret_bool (by simp [h1]), below_drewN HB.out _⟩
def pushQ (N : Net) (i t : Nat) (h : Q4) : Bool := decide (h.b = i) && decide (h.a = t) && N.can i h.c.toNat
set_option maxRecDepth 100000 in
set_option maxHeartbeats 1000000 in
theorem pushedAt_I (D : TmgD) (i t : Nat) (w : World) (hT : Tmg w D) (hD : D.clk.Ok) (hi : i < D.T.xs.length) :
    Calls Tryz.prog 55 #[.pointer (some ⟨D.tb, 0, none⟩), .int .i64 i, .int .i64 t] w fun e w' => e = .returned (.bool ((D.ps.map (hitQp D.T.xs)).any (pushQ D.net i t))) ∧ Below w.heap.size w w' := by
  have hn : D.T.xs.length ≤ 60 := hD.n
  obtain ⟨W3, hW3⟩ : ∃ W, W = ((w.alloc (.cells #[.pointer (some ⟨D.tb, 0, none⟩)] 96)).alloc (.cells #[.int .i64 i] 3)).alloc (.cells #[.int .i64 t] 3) := ⟨_, rfl⟩
  have B3 : Below w.heap.size w W3 := by rw [hW3]; exact (((Below.refl _ _).alloc (Nat.le_refl _) _).alloc (by simp) _).alloc (by simp; omega) _
  have x0 : W3.cell? ⟨w.heap.size, 0, none⟩ = some (.pointer (some ⟨D.tb, 0, none⟩)) := by rw [hW3]; simp [go_sem]
  have x1 : W3.cell? ⟨w.heap.size + 1, 0, none⟩ = some (.int .i64 i) := by rw [hW3]; simp [go_sem]
  have x2 : W3.cell? ⟨w.heap.size + 1 + 1, 0, none⟩ = some (.int .i64 t) := by rw [hW3]; simp [go_sem]
  have t2 := cell_on B3 hT.c2
  have HC := hid (has_Ht 84 (enters_of Tryz.func84 (by kernel_rfl) rfl) #[.pointer (some ⟨w.heap.size + 1, 0, none⟩), .pointer (some ⟨w.heap.size + 1 + 1, 0, none⟩), .pointer (some ⟨w.heap.size, 0, none⟩)] (pushQ D.net i t) D.qa D.qc (D.ps.map (hitQp D.T.xs)) W3 ((hT.below B3).qs) (fun h hm W hB => by
    obtain ⟨p, hp, rfl⟩ := List.mem_map.1 hm
    have hps := (hD.pu p hp).2.2.1
    obtain ⟨s, hs⟩ := Int.eq_ofNat_of_zero_le hps.1
    have hp2 := pushed1_I D i t s p.t (idxOf (atC p.x p.y) D.T.xs) (-1) (w.heap.size + 1) (w.heap.size + 1 + 1) w.heap.size W ((hT.below B3).below hB) hi hn (by omega) (cell_on hB x1) (cell_on hB x2) (cell_on hB x0)
    have e1 : (hitQp D.T.xs p).e64 = [.int .i64 p.t, .int .i64 (idxOf (atC p.x p.y) D.T.xs), .int .i64 s, .int .i64 (-1)] := by rw [← hs]; rfl
    have e2 : pushQ D.net i t (hitQp D.T.xs p) = (decide (idxOf (atC p.x p.y) D.T.xs = i) && decide (p.t = t) && D.net.can i s) := by
      show (decide (idxOf (atC p.x p.y) D.T.xs = i) && decide (p.t = t) && D.net.can i p.s.toNat) = _
      rw [hs, Int.toNat_natCast]
    rw [e1, e2]
    exact hp2))
  rw [List.length_map] at HC
  generalize (D.ps.map (hitQp D.T.xs)).any (pushQ D.net i t) = r at *
  have HB := hid B3
  clear hT hD B3 x1 x2
  go_enter Tryz.func55, Tryz.ntmps55
  go_upto_region 1 with fail
  rw [← hW3]
  clear hW3
  go_wp2_with fail
  refine HC.out.mono ?_
  rintro e w1 ⟨rfl, hb1⟩
  go_wp2_with fail
  go_ret
  exact ⟨rfl, below_of HB.out HB.out.size hb1⟩
set_option maxRecDepth 100000 in
set_option maxHeartbeats 2000000 in
theorem behind_I (D : TmgD) (S : Nat → Nat → Bool) (L : Nat → Nat) (mg mc lg lc i q : Nat) (w : World) (hD : D.clk.Ok) (hT : Tmg w D) (k4 : w.cell? ⟨D.tb, 4, none⟩ = some (.slice (some ⟨lg, 0, none⟩) D.T.xs.length lc)) (hL : TuA w lg D.T.xs.length L)
    (k5 : w.cell? ⟨D.tb, 5, none⟩ = some (.slice (some ⟨mg, 0, none⟩) D.T.xs.length mc)) (hS : U8A w mg D.T.xs.length (fun i => sBits (S i))) (hi : i < D.T.xs.length)
    (hb : latO L i < big) (hq : D.net.near i (sideO L i) = some q) (hqn : q < D.T.xs.length) (hal : always D.net S q (opp (sideO L i)) = true) (hsum : latO L q + D.net.high q = latO L i) :
    Calls Tryz.prog 56 #[.pointer (some ⟨D.tb, 0, none⟩), .int .i64 i, .int .i64 (latO L i)] w fun e w' => e = .returned (.int .i64 q) ∧ Below w.heap.size w w' := by
  have hn : D.T.xs.length ≤ 60 := hD.n
  have hbig : big = 1099511627776 := rfl
  obtain ⟨bb, bo, hb_, ho_, pb_, po_, mv_, lo_, hi_, hR, _, _, _, _, _, _⟩ := rdy_of (side := 0) hT hD hi (by omega)
  obtain ⟨bb2, bo2, hb2_, ho2_, pb, po, mv2, lo2, hi2, hR2, _, _, _, hhi, _, nhi⟩ := rdy_of (side := 0) hT hD hqn (by omega)
  have p1 := hR2.p1
  have t1 := hR2.t1
  have t0 := hR.t0
  have s3 := hR.s3
  have be := hR.be
  have b0 : w.cell? ⟨bb, bo + i * 4, none⟩ = some (.int .i64 (nearI D.T.xs i 0)) := be 0 (by omega)
  have b1 : w.cell? ⟨bb, bo + i * 4 + 1, none⟩ = some (.int .i64 (nearI D.T.xs i 1)) := be 1 (by omega)
  have b2 : w.cell? ⟨bb, bo + i * 4 + 2, none⟩ = some (.int .i64 (nearI D.T.xs i 2)) := be 2 (by omega)
  have b3 : w.cell? ⟨bb, bo + i * 4 + 3, none⟩ = some (.int .i64 (nearI D.T.xs i 3)) := be 3 (by omega)
  have l0 : w.cell? ⟨lg, q * 4, none⟩ = some (.int .i64 (L (4 * q) : Int)) := hL.c q 0 hqn (by omega)
  have l1 : w.cell? ⟨lg, q * 4 + 1, none⟩ = some (.int .i64 (L (4 * q + 1) : Int)) := hL.c q 1 hqn (by omega)
  have l2 : w.cell? ⟨lg, q * 4 + 2, none⟩ = some (.int .i64 (L (4 * q + 2) : Int)) := hL.c q 2 hqn (by omega)
  have l3 : w.cell? ⟨lg, q * 4 + 3, none⟩ = some (.int .i64 (L (4 * q + 3) : Int)) := hL.c q 3 hqn (by omega)
  have HLT := hid (fun W => leastTk_I (fun k => L (4 * q + k)) W)
  have hlq : best4 (fun k => L (4 * q + k)) = latO L q := rfl
  rw [hlq] at HLT
  have HIX := hid (fun (s : Nat) (h : s < 4) W => idxIn (v0 := nearI D.T.xs i 0) (v1 := nearI D.T.xs i 1) (v2 := nearI D.T.xs i 2) (v3 := nearI D.T.xs i 3) (f := fun j => nearI D.T.xs i j) rfl rfl rfl rfl h W)
  have h4 := sideO_lt L i
  have HFA := hid (fun s (h : s < sideO L i) => sideO_first h)
  have HAT := hid (sideO_at L i)
  have HLC := hid (fun s (h : s < 4) => hL.c i s hi h)
  have HAL := hid (fun W (hB : Below w.heap.size w W) => always_I D S mg mc q (opp (sideO L i)) W hD (hT.below hB) (cell_on hB k5) (hS.below hB) hqn (opp_lt _))
  rw [hal] at HAL
  have HNC := hid (fun s => near_cases D i s)
  have HOP := hid (fun (s : Nat) W (h : s < 4) => opp_I s W (by omega))
  have hii : (i : Int) < (D.T.xs.length : Int) := by omega
  have hqi : (q : Int) < (D.T.xs.length : Int) := by omega
  have hql : (q : Int) < (D.ss.length : Int) := by have : D.ss.length = D.T.xs.length := hD.len; omega
  have hss1 : D.ss.length ≤ 60 := by have : D.ss.length = D.T.xs.length := hD.len; omega
  have hwl : IntKind.i64.wrap hi2 = hi2 := IntWalk.i64_in _ (by omega)
  obtain ⟨sd, hsd⟩ : ∃ sd, sideO L i = sd := ⟨_, rfl⟩
  rw [hsd] at h4 HFA HAT hq HAL
  obtain ⟨t, ht⟩ : ∃ t, latO L i = t := ⟨_, rfl⟩
  rw [ht] at HFA HAT hb hsum
  rw [ht]
  obtain ⟨lq, hlqe⟩ : ∃ v, latO L q = v := ⟨_, rfl⟩
  rw [hlqe] at HLT hsum
  have hse : (lq : Int) + hi2 = (t : Int) := by omega
  have hlb : (lq : Int) < 1099511627776 := by omega
  have htb : (t : Int) < 1099511627776 := by omega
  have hwt : IntKind.i64.wrap ((lq : Int) + hi2) = (lq : Int) + hi2 := IntWalk.i64_in _ (by omega)
  have HQ := hid hq
  clear hT hD hL hS hal hsum hR hR2 be hq hlq hsd ht hlqe nhi
  go_enter Tryz.func56, Tryz.ntmps56
  go_wp2_with fail
  go_loop [20] (fun sv => ∃ s : Nat, s ≤ sd ∧ sv = .int .i64 s) (fun sv => 4 - (intOf sv).toNat)
  case atStart => exact ⟨0, Nat.zero_le _, rfl⟩
  case round =>
    obtain ⟨s, hss, rfl⟩ := hrel
    have hs4 : s < 4 := by omega
    have hds : decide ((s : Int) < 4) = true := by rw [decide_eq_true_iff]; omega
    have hsi : (s : Int) < 4 := by omega
    have hidx := HIX.out s hs4
    have cl := HLC.out s hs4
    rcases HNC.out s with ⟨k, ek, nk, hkl⟩ | ⟨ek, nk⟩
    · simp only [ek] at hidx
      have hk0 : ¬ (k : Int) < 0 := by omega
      have hk1 : decide ((k : Int) < 0) = false := decide_eq_false hk0
      rcases Nat.lt_or_ge s sd with hlt | hge
      · have hne := HFA.out s hlt
        obtain ⟨v, hv⟩ : ∃ v, L (4 * i + s) = v := ⟨_, rfl⟩
        rw [hv] at cl hne
        have hn1 : ¬ (v : Int) = (t : Int) := by omega
        have hn2 : ((v : Int) == (t : Int)) = false := by simpa using hn1
        have hn3 : decide ((v : Int) = (t : Int)) = false := decide_eq_false hn1
        clear hv nk ek
        go_wp2_with fail
        exact ⟨⟨s + 1, by omega, by go_num⟩, by simp [intOf]; omega⟩
      · obtain rfl : s = sd := by omega
        have hkq : k = q := by have := HQ.out; rw [nk] at this; injection this
        subst hkq
        rw [HAT.out] at cl
        have HA := hid (fun W => HOP.out s W hs4)
        rw [show ((s : Int) + 2) % 4 = ((opp s : Nat) : Int) by unfold opp; omega] at HA
        clear nk ek
        go_wp2_with fail
        refine (HA.out _).mono ?_
        rintro e w2 ⟨rfl, rfl⟩
        go_wp2_with fail
        refine (HAL.out _ (Below.refl _ _)).mono ?_
        rintro e w2 ⟨rfl, rfl⟩
        go_wp2_with fail
        refine (HLT.out _).mono ?_
        rintro e w3 ⟨rfl, hb3⟩
        have t13 := cell_on hb3 t1
        have p13 := cell_on hb3 p1
        go_wp2_with fail
        go_ret
        exact ⟨rfl, hb3⟩
    · have hlt : s < sd := by
        rcases Nat.lt_or_ge s sd with h | h
        · exact h
        · have : s = sd := by omega
          subst this
          have := HQ.out
          rw [nk] at this
          cases this
      obtain ⟨v, hv⟩ : ∃ v, nearI D.T.xs i s = v := ⟨_, rfl⟩
      simp only [hv] at hidx
      rw [hv] at ek
      have hk1 : decide (v < 0) = true := decide_eq_true ek
      clear hv nk
      go_wp2_with fail
      exact ⟨⟨s + 1, by omega, by go_num⟩, by simp [intOf]; omega⟩
theorem pushV_ge {x y s : Int} : ∀ {ps : List Pu} {p : Pu}, p ∈ ps → p.x = x → p.y = y → p.s = s → pushV x y s ps ≤ p.t.toNat
  | [], p, h, _, _, _ => by cases h
  | q :: ps, p, h, hx, hy, hs => by
    unfold pushV
    rcases List.mem_cons.1 h with h1 | h1
    · subst h1
      unfold puVal
      rw [if_pos ⟨hx, hy, hs⟩]
      omega
    · have := pushV_ge h1 hx hy hs
      omega
theorem pushV_ex {x y s : Int} : ∀ {ps : List Pu}, pushV x y s ps < big → ∃ p, p ∈ ps ∧ p.x = x ∧ p.y = y ∧ p.s = s ∧ pushV x y s ps = p.t.toNat
  | [], h => by unfold pushV at h; omega
  | q :: ps, h => by
    unfold pushV at h ⊢
    by_cases h1 : puVal x y s q ≤ pushV x y s ps
    · by_cases h2 : q.x = x ∧ q.y = y ∧ q.s = s
      · refine ⟨q, List.mem_cons_self, h2.1, h2.2.1, h2.2.2, ?_⟩
        unfold puVal at h1 ⊢
        rw [if_pos h2] at h1 ⊢
        omega
      · unfold puVal at h1 h
        rw [if_neg h2] at h1 h
        omega
    · obtain ⟨p, hp, e1, e2, e3, e4⟩ := pushV_ex (x := x) (y := y) (s := s) (ps := ps) (by omega)
      exact ⟨p, List.mem_cons_of_mem _ hp, e1, e2, e3, by omega⟩
theorem stop_any {D : TmgD} (hD : D.clk.Ok) {S : Nat → Nat → Bool} {L : Nat → Nat} (fx : ∀ y, L y = lateF D.net S L y) {i : Nat} (hi : i < D.T.xs.length) (hb : latO L i < big) : (D.ps.map (hitQp D.T.xs)).any (pushQ D.net i (latO L i)) = stopO D.net L i := by
  obtain ⟨p0, hp0⟩ : ∃ p, D.T.xs[i]? = some p := ⟨_, List.getElem?_eq_getElem hi⟩
  have hpush : ∀ s, D.net.push i s = pushV p0.x p0.y s D.ps := by
    intro s
    show (match D.T.xs[i]? with | some p => pushV p.x p.y s D.ps | none => big) = _
    rw [hp0]
  rw [Bool.eq_iff_iff]
  constructor
  · intro h
    rw [List.any_eq_true] at h
    obtain ⟨q, hq, hh⟩ := h
    obtain ⟨p, hp, rfl⟩ := List.mem_map.1 hq
    unfold pushQ at hh
    simp only [Bool.and_eq_true, decide_eq_true_eq] at hh
    obtain ⟨⟨h1, h2⟩, h3⟩ := hh
    have h1' : idxOf (atC p.x p.y) D.T.xs = (i : Int) := h1
    have h2' : p.t = ((latO L i : Nat) : Int) := h2
    have h3' : D.net.can i p.s.toNat = true := h3
    have hps := (hD.pu p hp).2.2.1
    obtain ⟨s, hs⟩ := Int.eq_ofNat_of_zero_le hps.1
    rw [hs, Int.toNat_natCast] at h3'
    have hany : D.T.xs.any (atC p.x p.y) = true := by rw [← idxOf_ge, h1']; simp
    obtain ⟨k, x, e1, e2, e3, _⟩ := idxOf_some hany
    have hk : k = i := by omega
    subst hk
    rw [hp0] at e2
    injection e2 with e2
    subst e2
    unfold atC at e3
    rw [decide_eq_true_eq] at e3
    refine stop_of fx hi (s := s) (by omega) h3' ?_ hb
    rw [hpush]
    have := pushV_ge (x := p0.x) (y := p0.y) (s := (s : Int)) hp e3.1.symm e3.2.symm hs
    rw [h2', Int.toNat_natCast] at this
    exact this
  · intro h
    obtain ⟨s, h1, h2, h3⟩ := stop_can fx hb h
    rw [hpush] at h3
    obtain ⟨p, hp, e1, e2, e3, e4⟩ := pushV_ex (x := p0.x) (y := p0.y) (s := (s : Int)) (ps := D.ps) (by omega)
    rw [List.any_eq_true]
    refine ⟨hitQp D.T.xs p, List.mem_map_of_mem hp, ?_⟩
    unfold pushQ
    simp only [Bool.and_eq_true, decide_eq_true_eq]
    have hpt := (hD.pu p hp).2.2.2
    refine ⟨⟨?_, ?_⟩, ?_⟩
    · show idxOf (atC p.x p.y) D.T.xs = (i : Int)
      have hany : D.T.xs.any (atC p.x p.y) = true := by
        rw [List.any_eq_true]
        exact ⟨p0, List.mem_of_getElem? hp0, by unfold atC; rw [decide_eq_true_eq]; exact ⟨e1.symm, e2.symm⟩⟩
      obtain ⟨k, x, a1, a2, a3, _⟩ := idxOf_some hany
      unfold atC at a3
      rw [decide_eq_true_eq] at a3
      have := hD.one k i x p0 a2 hp0 (by omega) (by omega)
      rw [a1, this]
    · show p.t = ((latO L i : Nat) : Int)
      omega
    · show D.net.can i p.s.toNat = true
      rw [e3, Int.toNat_natCast]
      exact h2
theorem stopO_up {N : Net} {L : Nat → Nat} {i : Nat} (h : ∀ j, j < 4 → (decide (L (4 * i + j) = latO L i) && decide (N.push i j = latO L i)) = false) : stopO N L i = false := by
  cases e : stopO N L i with
  | false => rfl
  | true =>
    obtain ⟨s, h1, h2, h3⟩ := stopO_iff.1 e
    have := h s h1
    rw [decide_eq_true h2, decide_eq_true h3] at this
    cases this
def beforeO (D : ClkD) (L : Nat → Nat) (i : Nat) : Int := if stopO D.net L i = true then -1 else nearI D.xs i (sideO L i)
theorem beforeO_stop {D : ClkD} {L : Nat → Nat} {i : Nat} (h : stopO D.net L i = true) : beforeO D L i = -1 := by unfold beforeO; rw [if_pos h]
theorem beforeO_to {D : ClkD} {L : Nat → Nat} {i : Nat} (h : stopO D.net L i = false) : beforeO D L i = nearI D.xs i (sideO L i) := by unfold beforeO; rw [if_neg (by rw [h]; simp)]
theorem none_up {p : Nat → Bool} {s : Nat} (h : ∀ j, j < s → p j = false) (hs : p s = false) : ∀ j, j < s + 1 → p j = false := by
  intro j hj
  by_cases e : j = s
  · subst e; exact hs
  · exact h j (by omega)
set_option maxRecDepth 100000 in
set_option maxHeartbeats 2000000 in
theorem before_S (base cb : Nat) (D : ClkD) (R : Rd) (i : Nat) (w : World) (hD : D.Ok) (h : CkS w base cb D R) (hi : i < D.xs.length) (hle : ∀ y, R.L y ≤ big) (hpl : ∀ s, D.net.push i s ≤ big) (hb : latO R.L i < big) :
    Calls Tryz.prog 52 #[.pointer (some ⟨cb, 0, none⟩), .int .i64 i] w fun e w' => e = .returned (.int .i64 (beforeO D R.L i)) ∧ Below w.heap.size w w' := by
  obtain ⟨eg, lg, sg, ec, lc, sc, hc, hq, hsg, k4, k5, k6, hE, hL, hS, fc, fs, n1, n2, n3, n4, n5, b0, b1⟩ := h
  have hn := hD.n
  have hbig : big = 1099511627776 := rfl
  clear k4 k6 hE hS fc fs n1 n2 n3 n4 n5 b0 b1 hq hsg
  generalize R.L = L at *
  have H1 := hid (least_S cb lg D.xs.length lc L i w hi hn k5 hL)
  rw [show best4 (fun k => L (4 * i + k)) = latO L i from rfl] at H1
  obtain ⟨t, ht⟩ : ∃ t, latO L i = t := ⟨_, rfl⟩
  rw [ht] at H1 hb
  rw [dn_lt hb] at H1
  have hH4 := hid (fun s (hs : s < 4) W (hB : Below w.heap.size w W) => pushed_S cb D i s W hD (hc.below hB) hi hs)
  have HC := hid (fun s (hs : s < 4) => hL.c i s hi hs)
  have c3 := hc.c3
  obtain ⟨ng, hng, hngl, hnr⟩ := hc.nr (by omega)
  rw [hng] at c3
  have HNR := hid (fun s (hs : s < 4) => hnr i s hi hs)
  have h4 := sideO_lt L i
  have HTO := hid (fun h => beforeO_to (D := D) (L := L) (i := i) h)
  have HFA := hid (fun s (h : s < sideO L i) => sideO_first h)
  have HAT := hid (sideO_at L i)
  have HLE := hid hle
  have HPL := hid hpl
  rw [ht] at HFA HAT
  have HUP := hid (stopO_up (N := D.net) (L := L) (i := i))
  have HIF := hid (stopO_iff (N := D.net) (L := L) (i := i))
  rw [ht] at HUP HIF
  generalize sideO L i = sd at *
  have hii : (i : Int) < (D.xs.length : Int) := by omega
  have HT := hid ht
  clear hc hL hnr hng ht hle hpl
  go_enter Tryz.func52, Tryz.ntmps52
  go_wp2_with fail
  refine H1.out.mono ?_
  rintro e w1 ⟨rfl, rfl⟩
  go_wp2_with fail
  go_loopw [6] (fun sv wr => ∃ s : Nat, s ≤ 4 ∧ sv = .int .i64 s ∧ (∀ j, j < s → (decide (L (4 * i + j) = t) && decide (D.net.push i j = t)) = false) ∧ Below w.heap.size w wr) (fun sv _ => 4 - (intOf sv).toNat)
  case atStart => exact ⟨0, Nat.zero_le _, rfl, fun j hj => by omega, Below.refl _ _⟩
  case round =>
    obtain ⟨s, hs, rfl, hno, hbl⟩ := hrel
    have HNO := hid hno
    have HBL := hid hbl
    have k5' := cell_on hbl k5
    clear hno hbl
    by_cases hs4 : s < 4
    · have hds : decide ((s : Int) < 4) = true := by rw [decide_eq_true_iff]; omega
      have hsi : (s : Int) < 4 := by omega
      have cl := cell_on HBL.out (HC.out s hs4)
      have HP := hid (hH4.out s hs4 wr HBL.out)
      have HU := hid (none_up HNO.out)
      have hv1 := HLE.out (4 * i + s)
      have hp1 := HPL.out s
      have HIS := hid (show L (4 * i + s) = t → D.net.push i s = t → stopO D.net L i = true from fun h1 h2 => HIF.out.2 ⟨s, hs4, h1, h2⟩)
      obtain ⟨v, hv⟩ : ∃ v, L (4 * i + s) = v := ⟨_, rfl⟩
      obtain ⟨p, hp⟩ : ∃ p, D.net.push i s = p := ⟨_, rfl⟩
      rw [hv] at cl HU hv1 HIS
      rw [hp] at HP HU hp1 HIS
      have hde : decide (dn v = (t : Int)) = decide (v = t) := by rw [← dn_lt hb, decide_eq_decide]; exact dn_inj hv1 (by omega)
      have hdp : decide (dn p = (t : Int)) = decide (p = t) := by rw [← dn_lt hb, decide_eq_decide]; exact dn_inj hp1 (by omega)
      obtain ⟨dv, hdv⟩ : ∃ d, dn v = d := ⟨_, rfl⟩
      obtain ⟨dp, hdp'⟩ : ∃ d, dn p = d := ⟨_, rfl⟩
      rw [hdv] at cl hde
      rw [hdp'] at HP hdp
      clear hv hp hdv hdp'
      by_cases e1 : v = t
      · rw [decide_eq_true e1] at hde HU
        have he1 : dv = (t : Int) := of_decide_eq_true hde
        subst he1
        by_cases e2 : p = t
        · rw [decide_eq_true e2] at hdp
          have he2 : dp = (t : Int) := of_decide_eq_true hdp
          subst he2
          have hst : stopO D.net L i = true := HIS.out e1 e2
          have HST := hid hst
          clear hst
          go_wp2_with fail
          refine HP.out.mono ?_
          rintro e w2 ⟨rfl, hb2⟩
          go_wp2_with fail
          go_ret
          exact ⟨ret_int (beforeO_stop HST.out).symm, below_then HBL.out hb2⟩
        · rw [decide_eq_false e2] at hdp HU
          have he2 : ¬ dp = (t : Int) := of_decide_eq_false hdp
          have he3 : (dp == (t : Int)) = false := by simpa using he2
          go_wp2_with fail
          refine HP.out.mono ?_
          rintro e w2 ⟨rfl, hb2⟩
          go_wp2_with fail
          exact ⟨⟨s + 1, by omega, by go_num, HU.out rfl, below_then HBL.out hb2⟩, by simp [intOf]; omega⟩
      · rw [decide_eq_false e1] at hde HU
        have he1 : ¬ dv = (t : Int) := of_decide_eq_false hde
        have he3 : (dv == (t : Int)) = false := by simpa using he1
        go_wp2_with fail
        exact ⟨⟨s + 1, by omega, by go_num, HU.out rfl, HBL.out⟩, by simp [intOf]; omega⟩
    · obtain rfl : s = 4 := by omega
      have hds : decide (((4 : Nat) : Int) < 4) = false := by decide
      have hst : stopO D.net L i = false := HUP.out HNO.out
      have HST := hid hst
      clear hst
      go_wp2_with fail
      go_loop [7] (fun sv => ∃ s : Nat, s ≤ sd ∧ sv = .int .i64 s) (fun sv => 4 - (intOf sv).toNat)
      case atStart => exact ⟨0, Nat.zero_le _, rfl⟩
      case round =>
        obtain ⟨s, hss, rfl⟩ := hrel
        have hs4 : s < 4 := by omega
        have hds2 : decide ((s : Int) < 4) = true := by rw [decide_eq_true_iff]; omega
        have hsi : (s : Int) < 4 := by omega
        have cl := cell_on HBL.out (HC.out s hs4)
        have cn := cell_on HBL.out (HNR.out s hs4)
        have c3' := cell_on HBL.out c3
        have hv1 := HLE.out (4 * i + s)
        rcases Nat.lt_or_ge s sd with hlt | hge
        · have hne := HFA.out s hlt
          have hdn : ¬ dn (L (4 * i + s)) = (t : Int) := by rw [← dn_lt hb]; exact fun e => hne ((dn_inj hv1 (by omega)).1 e)
          obtain ⟨dv, hdv⟩ : ∃ d, dn (L (4 * i + s)) = d := ⟨_, rfl⟩
          rw [hdv] at cl hdn
          have he3 : (dv == (t : Int)) = false := by simpa using hdn
          have he4 : decide (dv = (t : Int)) = false := decide_eq_false hdn
          clear hdv hne hv1
          go_wp2_with fail
          exact ⟨⟨s + 1, by omega, by go_num⟩, by simp [intOf]; omega⟩
        · obtain rfl : s = sd := by omega
          rw [HAT.out, dn_lt hb] at cl
          obtain ⟨nv, hnv⟩ : ∃ v, nearI D.xs i s = v := ⟨_, rfl⟩
          rw [hnv] at cn
          have HNV := hid hnv
          clear hv1 hnv
          go_wp2_with fail
          go_ret
          exact ⟨ret_int (by rw [HTO.out HST.out, HNV.out]), HBL.out⟩
def CriticalWayG (wi hi : Int) (xs : List Pc) (ps : List Pu) (ss : List Sp) (i : Int) : List Int × Int :=
  if askedG wi hi xs ps ss = 0 then
    if inB i 0 ((xs.length : Int) - 1) = true then
      if latO (fin (netOf xs ps ss)).L i.toNat < big then (wayO (netOf xs ps ss) (fin (netOf xs ps ss)).L i.toNat, 0) else ([], 6)
    else ([], 2)
  else ([], askedG wi hi xs ps ss)
theorem wayG_no {wi hi : Int} {xs : List Pc} {ps : List Pu} {ss : List Sp} {i : Int} (h0 : askedG wi hi xs ps ss ≠ 0) : CriticalWayG wi hi xs ps ss i = ([], askedG wi hi xs ps ss) := by
  unfold CriticalWayG
  rw [if_neg h0]
theorem wayG_bad {wi hi : Int} {xs : List Pc} {ps : List Pu} {ss : List Sp} {i : Int} (h0 : askedG wi hi xs ps ss = 0) (h1 : inB i 0 ((xs.length : Int) - 1) = false) : CriticalWayG wi hi xs ps ss i = ([], 2) := by
  unfold CriticalWayG
  rw [if_pos h0, if_neg (by rw [h1]; simp)]
theorem wayG_none {wi hi : Int} {xs : List Pc} {ps : List Pu} {ss : List Sp} {k : Nat} {R : Rd} (hR : fin (netOf xs ps ss) = R) (h0 : askedG wi hi xs ps ss = 0) (h1 : inB (k : Int) 0 ((xs.length : Int) - 1) = true) (h2 : ¬ latO R.L k < big) : CriticalWayG wi hi xs ps ss k = ([], 6) := by
  unfold CriticalWayG
  rw [if_pos h0, if_pos h1, Int.toNat_natCast, hR, if_neg h2]
theorem wayG_of {wi hi : Int} {xs : List Pc} {ps : List Pu} {ss : List Sp} {k : Nat} {R : Rd} (hR : fin (netOf xs ps ss) = R) (h0 : askedG wi hi xs ps ss = 0) (h1 : inB (k : Int) 0 ((xs.length : Int) - 1) = true) (h2 : latO R.L k < big) : CriticalWayG wi hi xs ps ss k = (wayO (netOf xs ps ss) R.L k, 0) := by
  unfold CriticalWayG
  rw [if_pos h0, if_pos h1, Int.toNat_natCast, hR, if_pos h2]
theorem CriticalWay_len (wi hi : Int) (xs : List Pc) (ps : List Pu) (ss : List Sp) (i : Int) (_ : xs.length ≤ 1048576) : (CriticalWayG wi hi xs ps ss i).1.length ≤ 1048576 := by
  unfold CriticalWayG
  split
  · rename_i h0
    obtain ⟨htb, h60⟩ := asked_ok h0
    have okN : (netOf xs ps ss).Ok := net_ok (ok_of htb h60 0 none 0 none 0 none 0 none 0)
    have hfx := fin_L okN
    have hnn : (netOf xs ps ss).n = xs.length := rfl
    generalize fin (netOf xs ps ss) = R at *
    split
    · split
      · rename_i h2
        have := wayO_len okN hfx h2
        dsimp only
        omega
      · simp
    · simp
  · simp
/-- How far the way has come: from the piece j back, l behind it. -/
theorem way_end {N : Net} {L : Nat → Nat} {i j : Nat} {l : List Int} (h : wayO N L i = wayO N L j ++ l) (hs : stopO N L j = true) : wayO N L i = (j : Int) :: l := by
  rw [h, way_stop hs]; rfl
theorem way_on {N : Net} (ok : N.Ok) {S : Nat → Nat → Bool} {L : Nat → Nat} (fx : ∀ y, L y = lateF N S L y) {i j q : Nat} {l : List Int} (h : wayO N L i = wayO N L j ++ l) (hb : latO L j < big) (hs : stopO N L j = false) (hq : N.near j (sideO L j) = some q) (hl : latO L q < latO L j) : wayO N L i = wayO N L q ++ ((j : Int) :: l) := by
  rw [h, way_step ok fx hb hs hq hl]; simp
set_option maxRecDepth 100000 in
set_option maxHeartbeats 4000000 in
theorem CriticalWay_I (w : World) (wi hi : Int) (wl : -128 ≤ wi) (wu : wi ≤ 127) (hl : -128 ≤ hi) (hu : hi ≤ 127) (a : Option Addr) (c : Nat) (xs : List Pc) (h : SlA Pc.enc 5 w a xs) (ha : a = none → c = 0) (ok : ∀ p ∈ xs, p.Ok) (hxl : xs.length ≤ 1048576) (al : Option Addr) (cl : Nat) (ps : List Pu) (hp : SlA Pu.enc 4 w al ps) (hal : al = none → cl = 0) (okp : ∀ p ∈ ps, p.Ok) (hpl : ps.length ≤ 1048576) (sa : Option Addr) (sc : Nat) (ss : List Sp) (hs : SlA Sp.enc 2 w sa ss) (hsa : sa = none → sc = 0) (oks : ∀ p ∈ ss, p.Ok) (hsl : ss.length ≤ 1048576) (i : Int) (il : -9223372036854775808 ≤ i) (iu : i ≤ 9223372036854775807) :
    Calls Tryz.prog 21 #[.agg #[.int .i8 wi, .int .i8 hi, .slice a xs.length c], .slice al ps.length cl, .slice sa ss.length sc, .int .i64 i] w (ResS en1 1 2 w (CriticalWayG wi hi xs ps ss i).1 (CriticalWayG wi hi xs ps ss i).2) := by
  obtain ⟨W0, hW0⟩ : ∃ W, W = w.alloc (.cells #[.int .i8 wi, .int .i8 hi, .slice a xs.length c] 35) := ⟨_, rfl⟩
  have B0 : Below w.heap.size w W0 := by rw [hW0]; exact (Below.refl _ _).alloc (Nat.le_refl _) _
  have hbd : BdA W0 w.heap.size wi hi a xs.length c := by rw [hW0]; exact ⟨by simp, by simp [go_sem], by simp [go_sem], by simp [go_sem]⟩
  have H1 := hid (spannedOk_I wi hi a c xs al cl ps sa sc ss W0 ⟨wl, wu, hl, hu⟩ (h.below B0) ha ok hxl (hp.below B0) okp (hs.below B0) hsa oks hsl)
  have k0 := hbd.c0
  have k1 := hbd.c1
  have k2 := hbd.c2
  rcases ask_lt (wi := wi) (hi := hi) (xs := xs) (ps := ps) (ss := ss) with h0 | h0 | h0
  · have HIX := hid (fun W (hB : Below W0.heap.size W0 W) => indexOk_I w.heap.size wi hi a xs.length c i W h.small (hbd.below hB hbd.lt))
    obtain ⟨htb, h60⟩ := asked_ok h0
    obtain ⟨d1, hd1⟩ : ∃ d, inB i 0 ((xs.length : Int) - 1) = d := ⟨_, rfl⟩
    have HD1 := hid hd1
    rw [hd1] at HIX
    have HB0 := hid B0
    have HA0 := hid h0
    rw [h0] at H1
    cases d1
    · have HG := hid (wayG_bad h0 hd1)
      clear B0 hbd htb hd1 h0
      go_enter Tryz.func21, Tryz.ntmps21
      go_wp2_with fail
      rw [← hW0]
      clear hW0
      refine H1.out.mono ?_
      rintro e w1 ⟨rfl, hb1⟩
      go_wp2_with fail
      refine (HIX.out _ hb1).mono ?_
      rintro e w2 ⟨rfl, rfl⟩
      have B1 := below_of HB0.out HB0.out.size hb1
      go_wp2_with fail
      go_ret2
      rw [HG.out]
      exact ResS.nil B1
    · have hii := hd1
      rw [inB_iff] at hii
      obtain ⟨k, rfl⟩ := Int.eq_ofNat_of_zero_le hii.1
      have hkx : k < xs.length := by omega
      have hD := ok_of htb h60 0 none 0 none 0 none 0 none 0
      have hD0 : (ClkD.mk 0 0 0 none 0 xs none 0 ps none 0 ss none 0).Ok := ⟨hD.n, hD.m, hD.len, hD.pc, hD.pu, hD.sp, hD.one⟩
      have okN : (netOf xs ps ss).Ok := net_ok hD0
      have hon : ∀ p ∈ ps, onB xs p = true := by
        unfold timedB pushesOk at htb
        simp only [Bool.and_eq_true, List.all_eq_true] at htb
        exact fun p hp => htb.2.2.2 p hp
      have H2 := fun W (hB : Below W0.heap.size W0 W) => timing_I w.heap.size wi hi a c xs al cl ps sa sc ss W (hbd.below hB hbd.lt) ((h.below B0).below hB) ((hp.below B0).below hB) ((hs.below B0).below hB) okp hD0 hon
      have hfx := fin_L okN
      obtain ⟨R, hR⟩ : ∃ R, fin (netOf xs ps ss) = R := ⟨_, rfl⟩
      have hR2 : rd (netOf xs ps ss) (rest (netOf xs ps ss) + 1) = R := hR
      rw [hR2] at H2
      generalize ((rest (netOf xs ps ss) + 1 : Nat) : Int) = rounds at *
      have H2 := hid H2
      rw [hR] at hfx
      have hle : ∀ y, R.L y ≤ big := fun y => by rw [hfx y]; exact (late_tick okN _).le _ _
      have HGN := hid (fun hx => wayG_none hR h0 hd1 hx)
      have HGY := hid (fun hx => wayG_of hR h0 hd1 hx)
      have HON := hid okN
      have HFX := hid hfx
      have HDD := hid hD0
      have hbig : big = 1099511627776 := rfl
      clear hbd htb hd1 h0 hD hD0 hon hs h hp hR hR2 okN hfx
      go_enter Tryz.func21, Tryz.ntmps21
      go_wp2_with fail
      rw [← hW0]
      clear hW0
      refine H1.out.mono ?_
      rintro e w1 ⟨rfl, hb1⟩
      go_wp2_with fail
      refine (HIX.out _ hb1).mono ?_
      rintro e w2 ⟨rfl, rfl⟩
      go_wp2_with fail
      refine (H2.out _ hb1).mono ?_
      rintro e w3 ⟨X, T, qa, qc, rfl, hb3, hxs, hT, hTm⟩
      subst hxs
      obtain ⟨eg, lg, mg, ec, lc, mc, hS, hE, hL, hM, n1, n2, n3⟩ := hT
      have x4 := hS.x4
      have x5 := hS.x5
      have HTM := hid hTm
      have HLL := hid hL
      have HMM := hid hM
      have B3 := below_then hb1 hb3
      have HB3 := hid (below_of HB0.out HB0.out.size B3)
      have hki : (k : Int) < (T.xs.length : Int) := by omega
      have HLC := hid (fun (j : Nat) (hj : j < T.xs.length) => (⟨hL.c j 0 hj (by omega), hL.c j 1 hj (by omega), hL.c j 2 hj (by omega), hL.c j 3 hj (by omega)⟩ : w3.cell? ⟨lg, j * 4, none⟩ = some (.int .i64 (R.L (4 * j) : Int)) ∧ w3.cell? ⟨lg, j * 4 + 1, none⟩ = some (.int .i64 (R.L (4 * j + 1) : Int)) ∧ w3.cell? ⟨lg, j * 4 + 2, none⟩ = some (.int .i64 (R.L (4 * j + 2) : Int)) ∧ w3.cell? ⟨lg, j * 4 + 3, none⟩ = some (.int .i64 (R.L (4 * j + 3) : Int))))
      have HLT := hid (fun (j : Nat) W => leastTk_I (fun s => R.L (4 * j + s)) W)
      have HLA := hid (fun (j : Nat) => show best4 (fun s => R.L (4 * j + s)) = latO R.L j from rfl)
      obtain ⟨l0, l1, l2, l3⟩ := HLC.out k hkx
      have HT1 := HLT.out k
      rw [HLA.out] at HT1
      obtain ⟨t, ht⟩ : ∃ t, latO R.L k = t := ⟨_, rfl⟩
      rw [ht] at HT1
      have HT1 := hid HT1
      have htle : t ≤ big := by rw [← ht]; exact best4_le2 _ (fun s => hle _)
      clear hS hE hL hM hTm hb1 hb3
      by_cases htb : t < big
      · have hG := HGY.out (by rw [ht]; exact htb)
        have HG := hid hG
        have hne : ¬ (t : Int) = 1099511627776 := by omega
        have hne1 : decide ((t : Int) = 1099511627776) = false := decide_eq_false hne
        have hne2 : ((t : Int) == 1099511627776) = false := by simpa using hne
        clear hG HGN HGY
        have HTT := hid ht
        clear ht
        go_wp2_with fail
        refine (HT1.out _).mono ?_
        rintro e w4 ⟨rfl, hb4⟩
        have B4 := hid hb4
        obtain ⟨m0, m1, m2, m3⟩ := HLC.out k hkx
        replace m0 := cell_on hb4 m0
        replace m1 := cell_on hb4 m1
        replace m2 := cell_on hb4 m2
        replace m3 := cell_on hb4 m3
        have y4 := cell_on hb4 x4
        have BA : ∀ o, Below w4.heap.size w4 (w4.alloc o) := fun o => (Below.refl _ _).alloc (Nat.le_refl _) o
        have a0 := fun o => cell_on (BA o) m0
        have a1 := fun o => cell_on (BA o) m1
        have a2 := fun o => cell_on (BA o) m2
        have a3 := fun o => cell_on (BA o) m3
        have a4 := fun o => cell_on (BA o) y4
        have HBA := hid BA
        clear hb4 m0 m1 m2 m3 y4 BA
        go_wp2_with fail
        refine (HT1.out _).mono ?_
        rintro e w5 ⟨rfl, hb5⟩
        have B5 := below_of (HBA.out _) (by simp) hb5
        have HB5 := hid B5
        have HO5 := hid (own_step (show (w4.alloc (.cells #[.int .i64 (k : Int)] 2)).ownsRow w4.heap.size 2 1 (.slice (some ⟨w4.heap.size, 0, none⟩) 1 1) 1 [.int .i64 (k : Int)] from World.ownsRow_lit w4 #[.int .i64 (k : Int)] 1 (Nat.le_refl _) (by simp [maxLen]) (by simp)) hb5)
        clear hb5 B5 a0 a1 a2 a3 a4
        go_wp2_with fail
        go_loopw [13, 14, 15] (fun ov av tv wr => ∃ (j m : Nat) (B : Option Addr) (c2 : Nat) (l : List Int), j < T.xs.length ∧ latO R.L j < big ∧ av = .int .i64 j ∧ tv = .int .i64 (latO R.L j) ∧ ov = .slice B m c2 ∧ m = l.length + 1 ∧ wr.ownsRow w4.heap.size 2 1 (.slice B m c2) m ((l.reverse ++ [(j : Int)]).flatMap en1) ∧ wayO (netOf T.xs ps ss) R.L k = wayO (netOf T.xs ps ss) R.L j ++ l ∧ Below w4.heap.size w4 wr) (fun _ av _ _ => latO R.L (intOf av).toNat)
        case atStart => exact ⟨k, 1, _, _, [], hkx, by rw [HTT.out]; exact htb, rfl, by rw [HTT.out], rfl, rfl, HO5.out, by simp, HB5.out⟩
        case round =>
          obtain ⟨j, m, B, c2, l, hj, hjb, rfl, rfl, rfl, hm, own, hway, hbl⟩ := hrel
          obtain ⟨V, hV⟩ : ∃ V, V = wr := ⟨_, rfl⟩
          subst hV
          have HO := hid own
          have HW := hid hway
          have HBL := hid hbl
          have HM := hid hm
          have B43 := below_then B4.out hbl
          have HBV := hid B43
          have hlen : l.length ≤ 61 := by
            have h1 := wayO_len HON.out HFX.out (i := k) (by rw [HTT.out]; exact htb)
            have h2 : (netOf T.xs ps ss).n = T.xs.length := rfl
            rw [hway, List.length_append] at h1
            omega
          have hPA := pushedAt_I ⟨X.heap.size, T, sa, sc, ss, qa, qc, ps⟩ j (latO R.L j) V (HTM.out.below B43) HDD.out hj
          have hSA := stop_any (D := ⟨X.heap.size, T, sa, sc, ss, qa, qc, ps⟩) HDD.out HFX.out hj hjb
          rw [hSA] at hPA
          obtain ⟨st, hst⟩ : ∃ b, stopO (netOf T.xs ps ss) R.L j = b := ⟨_, rfl⟩
          have hst' : stopO (TmgD.mk X.heap.size T sa sc ss qa qc ps).net R.L j = st := hst
          rw [hst'] at hPA
          have HPA := hid hPA
          have HST := hid hst
          have hbz := hbl.size
          have hms : m ≤ 62 := by omega
          obtain ⟨g, hg⟩ : ∃ g, B = some ⟨g, 0, none⟩ := by
            obtain ⟨g, cap', hv, _, _⟩ := own.form (by omega)
            injection hv with hv1
            exact ⟨g, hv1⟩
          subst hg
          clear own hway hbl hPA hSA hst hst' hm
          cases st
          · obtain ⟨q, hq1, hq2, hq3, hq4⟩ := way_law HON.out HFX.out hjb HST.out
            have hqh := HON.out.high1 q
            have HBE := hid (behind_I ⟨X.heap.size, T, sa, sc, ss, qa, qc, ps⟩ R.S R.L mg mc lg lc j q)
            have HWY := hid (way_on HON.out HFX.out HW.out hjb HST.out hq1 (by omega))
            have HQS := hid (And.intro hq1 (And.intro hq3 hq4))
            have hqb : latO R.L q < big := by omega
            have hql : latO R.L q < latO R.L j := by omega
            have hq2' : q < T.xs.length := hq2
            have hqi : (q : Int) < (T.xs.length : Int) := by omega
            clear hq1 hq3 hq4
            go_wp2_with fail
            refine HPA.out.mono ?_
            rintro e w6 ⟨rfl, hb6⟩
            have HB6 := hid hb6
            have B46 := hid (below_then HBV.out hb6)
            have HB7 := hid (HBE.out w6 HDD.out (HTM.out.below B46.out) (cell_on B46.out x4) (HLL.out.below B46.out HLL.out.lt) (cell_on B46.out x5) (HMM.out.below B46.out) hj hjb HQS.out.1 hq2' HQS.out.2.1 HQS.out.2.2)
            clear hb6
            go_wp2_with fail
            refine HB7.out.mono ?_
            rintro e w8 ⟨rfl, hb8⟩
            have HV8 := hid (below_then HB6.out hb8)
            have HO8 := hid (own_step HO.out HV8.out)
            have HB48 := hid (below_then HBL.out HV8.out)
            have hz8 := HB48.out.size
            have hz8' := HV8.out.size
            clear hb8
            go_wp2_with (at_builtin; refine app_one (w := w8) 48 2 (.int .i64 0) 1 8 Tryz.underlying48 (by kernel_rfl) rfl (by decide) w4.heap.size _ m _ HO8.out ?c1 (by decide) hz8 [.int .i64 q] _ _ rfl rfl rfl _ rfl ?c3 rfl (by intro u hu; simp at hu; rcases hu with rfl; rfl) ?_)
            case c1 => omega
            case c3 => rfl
            intro A2 c3 w9 own9 hb9 hg9 hat9
            have HO9 := hid own9
            have HB9 := hid (HB48.out.trans hb9)
            have B39 := hid (B4.out.trans (HB9.out.mono B4.out.size))
            have hq9 := HLC.out q hq2'
            obtain ⟨m0, m1, m2, m3⟩ := hq9
            replace m0 := cell_on B39.out m0
            replace m1 := cell_on B39.out m1
            replace m2 := cell_on B39.out m2
            replace m3 := cell_on B39.out m3
            have y4 := cell_on B39.out x4
            have HT2 := HLT.out q
            rw [HLA.out] at HT2
            have HT2 := hid HT2
            clear own9 hb9 hg9 hat9
            go_wp2_with fail
            refine (HT2.out _).mono ?_
            rintro e w10 ⟨rfl, hb10⟩
            have HO10 := hid (own_step HO9.out hb10)
            have HB10 := hid (below_of HB9.out HB9.out.size hb10)
            clear hb10 m0 m1 m2 m3 y4
            go_wp2_with fail
            refine ⟨⟨q, m + 1, A2, c3, (j : Int) :: l, hq2', hqb, rfl, rfl, rfl, by have := HM.out; simp; omega, ?_, HWY.out, HB10.out⟩, by simpa [intOf] using hql⟩
            have := HO10.out
            simp only [List.reverse_cons, List.append_assoc, List.flatMap_append, List.flatMap_cons, List.flatMap_nil, List.append_nil] at this ⊢
            simpa [en1] using this
          · have HWE := hid (way_end HW.out HST.out)
            go_wp2_with fail
            refine HPA.out.mono ?_
            rintro e w6 ⟨rfl, hb6⟩
            have HO6 := own_step HO.out hb6
            have HV6 := hid (below_of HBL.out hbz hb6)
            have hlm : (l.reverse ++ [(j : Int)]).length = m := by have := HM.out; simp; omega
            rw [← hlm] at HO6
            have HRV := reverse_I (l.reverse ++ [(j : Int)]) g c2 w4.heap.size w6 (by rw [hlm]; omega) HO6
            rw [hlm, List.reverse_append, List.reverse_reverse] at HRV
            have HRV := hid HRV
            have hgw := (HO.out.lt g rfl).1
            clear hb6 HO6
            go_wp2_with fail
            refine HRV.out.mono ?_
            rintro e w7 ⟨rfl, hg7, own7⟩
            have HB7 := hid (HV6.out.grown hg7 HV6.out.size (fun x hx => by cases hx; exact hgw))
            have HO7 := hid own7
            clear hg7 own7
            go_wp2_with fail
            refine bodyPost_ret (v := .tuple #[.slice (some ⟨g, 0, none⟩) m c2, .int .i64 0]) (by simp [results, Tryz.results21, go_sem]) rfl ?_
            rw [HG.out, HWE.out]
            have hml : m = ((j : Int) :: l).length := by rw [HM.out]; rfl
            refine ⟨some ⟨g, 0, none⟩, c2, by rw [← hml], HB3.out.trans ((B4.out.trans (HB7.out.mono B4.out.size)).mono HB3.out.size), ?_⟩
            rw [← hml]
            have h3 := HB3.out.size
            have h4 := B4.out.size
            exact own_low HO7.out (by omega)
      · have hG := HGN.out (by rw [ht]; exact htb)
        have HG := hid hG
        have hte : t = 1099511627776 := by omega
        subst hte
        clear hG HGN HGY ht
        go_wp2_with fail
        refine (HT1.out _).mono ?_
        rintro e w4 ⟨rfl, hb4⟩
        have B4 := below_of HB3.out HB3.out.size hb4
        go_wp2_with fail
        go_ret2
        rw [HG.out]
        exact ResS.nil B4
  all_goals (
    have HG := hid (show CriticalWayG wi hi xs ps ss i = ([], askedG wi hi xs ps ss) from wayG_no (by rw [h0]; decide))
    rw [h0] at H1 HG
    have HB0 := hid B0
    clear B0 hbd
    go_enter Tryz.func21, Tryz.ntmps21
    go_wp2_with fail
    rw [← hW0]
    clear hW0
    refine H1.out.mono ?_
    rintro e w1 ⟨rfl, hb1⟩
    have B1 := below_of HB0.out HB0.out.size hb1
    go_wp2_with fail
    go_ret2
    rw [HG.out]
    exact ResS.nil B1)
set_option maxRecDepth 100000 in
set_option maxHeartbeats 4000000 in
theorem CriticalWay_S (w : World) (wi hi : Int) (wl : -128 ≤ wi) (wu : wi ≤ 127) (hl : -128 ≤ hi) (hu : hi ≤ 127) (a : Option Addr) (c : Nat) (xs : List Pc) (h : SlA Pc.enc 5 w a xs) (ha : a = none → c = 0) (ok : ∀ p ∈ xs, p.Ok) (hxl : xs.length ≤ 1048576) (al : Option Addr) (cl : Nat) (ps : List Pu) (hp : SlA Pu.enc 4 w al ps) (hal : al = none → cl = 0) (okp : ∀ p ∈ ps, p.Ok) (hpl : ps.length ≤ 1048576) (sa : Option Addr) (sc : Nat) (ss : List Sp) (hs : SlA Sp.enc 2 w sa ss) (hsa : sa = none → sc = 0) (oks : ∀ p ∈ ss, p.Ok) (hsl : ss.length ≤ 1048576) (i : Int) (il : -9223372036854775808 ≤ i) (iu : i ≤ 9223372036854775807) :
    Calls Tryz.prog 20 #[.agg #[.int .i8 wi, .int .i8 hi, .slice a xs.length c], .slice al ps.length cl, .slice sa ss.length sc, .int .i64 i] w (ResS en1 1 2 w (CriticalWayG wi hi xs ps ss i).1 (CriticalWayG wi hi xs ps ss i).2) := by
  obtain ⟨W0, hW0⟩ : ∃ W, W = w.alloc (.cells #[.int .i8 wi, .int .i8 hi, .slice a xs.length c] 35) := ⟨_, rfl⟩
  have B0 : Below w.heap.size w W0 := by rw [hW0]; exact (Below.refl _ _).alloc (Nat.le_refl _) _
  have hbd : BdA W0 w.heap.size wi hi a xs.length c := by rw [hW0]; exact ⟨by simp, by simp [go_sem], by simp [go_sem], by simp [go_sem]⟩
  have H1 := hid (asked_S w.heap.size wi hi a c xs al cl ps sa sc ss W0 ⟨wl, wu, hl, hu⟩ hbd (h.below B0) ok (hp.below B0) okp (hs.below B0) oks)
  have ssm := hs.small
  rcases ask_lt (wi := wi) (hi := hi) (xs := xs) (ps := ps) (ss := ss) with h0 | h0 | h0
  · obtain ⟨htb, h60⟩ := asked_ok h0
    have hlen : ss.length = xs.length := (ok_of htb h60 0 none 0 none 0 none 0 none 0).len
    have HIN := hid (fun W => in_S i 0 ((xs.length : Int) - 1) W)
    obtain ⟨d1, hd1⟩ : ∃ d, inB i 0 ((xs.length : Int) - 1) = d := ⟨_, rfl⟩
    have HD1 := hid hd1
    rw [hd1] at HIN
    have HB0 := hid B0
    rw [h0] at H1
    have w1' : IntKind.i64.wrap ((xs.length : Int) - 1) = (xs.length : Int) - 1 := IntWalk.i64_in _ (by omega)
    cases d1
    · have HG := hid (wayG_bad h0 hd1)
      rw [hlen] at H1 ⊢
      clear B0 hbd htb hd1 h0 hlen
      go_enter Tryz.func20, Tryz.ntmps20
      go_wp2_with fail
      rw [← hW0]
      clear hW0
      refine H1.out.mono ?_
      rintro e w1 ⟨rfl, hb1⟩
      go_wp2_with fail
      refine (HIN.out _).mono ?_
      rintro e w2 ⟨rfl, rfl⟩
      have B1 := below_of HB0.out HB0.out.size hb1
      go_wp2_with fail
      go_ret2
      rw [HG.out]
      exact ResS.empty B1
    · have hii := hd1
      rw [inB_iff] at hii
      obtain ⟨k, rfl⟩ := Int.eq_ofNat_of_zero_le hii.1
      have hkx : k < xs.length := by omega
      have hDD := fun na nc => ok_of htb h60 w.heap.size a c al cl sa sc na nc
      have okN : (netOf xs ps ss).Ok := net_ok (hDD none 0)
      have H2 := fun W (hB : Below W0.heap.size W0 W) => time_S w.heap.size wi hi a c xs al cl ps sa sc ss W (hbd.below hB hbd.lt) ((h.below B0).below hB) ((hp.below B0).below hB) ((hs.below B0).below hB) hDD
      have hfx := fin_L okN
      obtain ⟨R, hR⟩ : ∃ R, fin (netOf xs ps ss) = R := ⟨_, rfl⟩
      have hR2 : rd (netOf xs ps ss) (rest (netOf xs ps ss) + 1) = R := hR
      rw [hR2] at H2
      generalize ((rest (netOf xs ps ss) + 1 : Nat) : Int) = rounds at *
      have H2 := hid H2
      rw [hR] at hfx
      have hle : ∀ y, R.L y ≤ big := fun y => by rw [hfx y]; exact (late_tick okN _).le _ _
      have HPL := hid (fun j s => push_le okN j s)
      have HLE := hid hle
      have HGN := hid (fun hx => wayG_none hR h0 hd1 hx)
      have HGY := hid (fun hx => wayG_of hR h0 hd1 hx)
      have HON := hid okN
      have HFX := hid hfx
      have HDD := hid hDD
      have hbig : big = 1099511627776 := rfl
      rw [hlen] at H1 H2 ⊢
      clear hbd htb hd1 h0 hDD hs h hp hR hR2 okN hfx hle hlen
      go_enter Tryz.func20, Tryz.ntmps20
      go_wp2_with fail
      rw [← hW0]
      clear hW0
      refine H1.out.mono ?_
      rintro e w1 ⟨rfl, hb1⟩
      go_wp2_with fail
      refine (HIN.out _).mono ?_
      rintro e w2 ⟨rfl, rfl⟩
      go_wp2_with fail
      refine (H2.out _ hb1).mono ?_
      rintro e w3 ⟨cb, na, nc, rfl, hb3, hck⟩
      have HCK := hid hck
      have B3 := below_then hb1 hb3
      have HB3 := hid (below_of HB0.out HB0.out.size B3)
      obtain ⟨eg, lg, sg, ec, lc, gc, qc, qq, qsg, k4, k5, k6, qE, qL, qS, fc, fs, n1, n2, n3, n4, n5, b0, b1⟩ := hck
      have HLS := hid (fun (W : World) (hB : Below w3.heap.size w3 W) (j : Nat) (hj : j < xs.length) => least_S cb lg xs.length lc R.L j W hj (by omega) (cell_on hB k5) (qL.below hB qL.lt))
      have HTM := hid (fun (W : World) (hB : Below w3.heap.size w3 W) => (⟨eg, lg, sg, ec, lc, gc, qc.below hB, qq, qsg, cell_on hB k4, cell_on hB k5, cell_on hB k6, qE.below hB qE.lt, qL.below hB qL.lt, qS.below hB qS.lt, fc.below hB qc.lt, fs.below hB qS.lt, n1, n2, n3, n4, n5, b0, b1⟩ : CkS W _ cb (ClkD.mk w.heap.size wi hi a c xs al cl ps sa sc ss na nc) R))
      have HLA := hid (fun (j : Nat) => show best4 (fun s => R.L (4 * j + s)) = latO R.L j from rfl)
      have HT1 := HLS.out w3 (Below.refl _ _) k hkx
      rw [HLA.out] at HT1
      obtain ⟨t, ht⟩ : ∃ t, latO R.L k = t := ⟨_, rfl⟩
      rw [ht] at HT1
      have HT1 := hid HT1
      have HTT := hid ht
      clear hb1 hb3 qc qq qsg k4 k5 k6 qE qL qS fc fs n1 n2 n3 n4 n5 b0 b1
      by_cases htb : t < big
      · have hG := HGY.out (by rw [ht]; exact htb)
        have HG := hid hG
        rw [dn_lt htb] at HT1
        have ht0 : ¬ (t : Int) < 0 := by omega
        have ht1 : decide ((t : Int) < 0) = false := decide_eq_false ht0
        clear hG HGN HGY ht
        go_wp2_with fail
        refine HT1.out.mono ?_
        rintro e w4 ⟨rfl, rfl⟩
        go_wp2_with fail
        go_loopw [13, 14] (fun ov av wr => ∃ (B : Option Addr) (c2 : Nat) (l : List Int), ov = .slice B l.length c2 ∧ wr.ownsRow w3.heap.size 2 1 (.slice B l.length c2) l.length (l.flatMap en1) ∧ Below w3.heap.size w3 wr ∧ ((∃ j : Nat, j < xs.length ∧ latO R.L j < big ∧ av = .int .i64 j ∧ wayO (netOf xs ps ss) R.L k = wayO (netOf xs ps ss) R.L j ++ l) ∨ (av = .int .i64 (-1) ∧ wayO (netOf xs ps ss) R.L k = l))) (fun _ av _ => if 0 ≤ intOf av then latO R.L (intOf av).toNat + 1 else 0)
        case atStart => exact ⟨_, _, [], rfl, by simpa using World.ownsRow_lit w3 #[] 0 (Nat.le_refl _) (by simp [maxLen]) (by simp), (Below.refl _ _).alloc (Nat.le_refl _) _, .inl ⟨k, hkx, by rw [HTT.out]; exact htb, rfl, by simp⟩⟩
        case round =>
          obtain ⟨B, c2, l, rfl, own, hbl, hcase⟩ := hrel
          obtain ⟨V, hV⟩ : ∃ V, V = wr := ⟨_, rfl⟩
          subst hV
          have HO := hid own
          have HBL := hid hbl
          have hbz := hbl.size
          rcases hcase with ⟨j, hj, hjb, rfl, hway⟩ | ⟨rfl, hway⟩
          · have hj0 : (0 : Int) ≤ (j : Int) := by omega
            have hj1 : decide ((j : Int) ≥ 0) = true := decide_eq_true hj0
            have HW := hid hway
            have hlen : l.length ≤ 61 := by
              have h1 := wayO_len HON.out HFX.out (i := k) (by rw [HTT.out]; exact htb)
              have h2 : (netOf xs ps ss).n = xs.length := rfl
              rw [hway, List.length_append] at h1
              omega
            have HF := hid ((SlA.of_own (enc := en1) (n := 1) en1_length own).flat en1_length)
            have HNC : B = none → c2 = 0 := fun e => by subst e; exact own_nil_cap HO.out
            have HNC := hid HNC
            clear own hbl hway
            go_wp2_with (at_builtin; refine app_many rfl _ _ 48 rfl w3.heap.size 2 (.int .i64 0) 1 8 Tryz.underlying48 (by kernel_rfl) rfl (by decide) _ 1 [.int .i64 j] rfl (World.ownsRow_lit V #[.int .i64 (j : Int)] 1 hbz (by simp [maxLen]) (by simp)) B l.length c2 (l.flatMap en1) rfl ?c1 ?c6 ?c2 ?c3 ?c4 (by decide) ?c5 ?_)
            case c1 => exact flatMap_len en1_length l
            case c2 => exact oneCell_flat (fun p u hu => by simp [en1] at hu; subst hu; rfl) l
            case c3 =>
              intro hm
              cases hB : B with
              | none => exact .inl ⟨rfl, HNC.out hB⟩
              | some ad => exact .inr (by simp)
            case c4 => omega
            case c5 => simp; omega
            case c6 =>
              intro hp
              obtain ⟨b, q, e, hc⟩ := HF.out hp
              exact ⟨b, q, e, fun j u hu => cell_on ((Below.refl _ _).alloc (Nat.le_refl _) _) (hc j u hu)⟩
            intro v1 w5 own5 hg5 hat
            obtain ⟨A5, c5, rfl⟩ := own_slice own5
            have hl5 : 1 + l.length = ((j : Int) :: l).length := by simp; omega
            have hx5 : Value.int .i64 (j : Int) :: l.flatMap en1 = ((j : Int) :: l).flatMap en1 := by simp [en1]
            rw [hx5] at own5
            have HO5 := hid own5
            have hB5 : Below w3.heap.size w3 w5 := (HBL.out.alloc hbz _).grown hg5 (by simp; omega) (fun x hx => by simp [Value.ownBlock] at hx; omega)
            have HB5 := hid hB5
            have HBF := before_S _ cb (ClkD.mk w.heap.size wi hi a c xs al cl ps sa sc ss na nc) R j w5 (HDD.out na nc) (HTM.out w5 hB5) hj HLE.out (fun s => HPL.out j s) hjb
            obtain ⟨st, hst⟩ : ∃ b, stopO (netOf xs ps ss) R.L j = b := ⟨_, rfl⟩
            have hst' : stopO (ClkD.mk w.heap.size wi hi a c xs al cl ps sa sc ss na nc).net R.L j = st := hst
            clear own5 hg5 hat hB5 hx5
            cases st
            · obtain ⟨q, hq1, hq2, hq3, hq4⟩ := way_law HON.out HFX.out hjb hst
              have hqh := HON.out.high1 q
              have hne : nearI xs j (sideO R.L j) = (q : Int) := by
                have h1 : (netOf xs ps ss).near j (sideO R.L j) = if nearI xs j (sideO R.L j) < 0 then none else some (nearI xs j (sideO R.L j)).toNat := rfl
                rw [h1] at hq1
                split at hq1
                · cases hq1
                · injection hq1 with hq1; omega
              have hne' : beforeO (ClkD.mk w.heap.size wi hi a c xs al cl ps sa sc ss na nc) R.L j = (q : Int) := (beforeO_to hst').trans hne
              rw [hne'] at HBF
              have HBF := hid HBF
              have HWY := hid (way_on HON.out HFX.out HW.out hjb hst hq1 (by omega))
              have hqb : latO R.L q < big := by omega
              have hql : latO R.L q + 1 < latO R.L j + 1 := by omega
              have hq2' : q < xs.length := hq2
              clear hq1 hq2 hq3 hq4 hst hst' hne hne'
              go_wp2_with fail
              refine HBF.out.mono ?_
              rintro e w6 ⟨rfl, hb6⟩
              have HO6 := hid (own_step HO5.out hb6)
              have HB6 := hid (below_of HB5.out HB5.out.size hb6)
              clear hb6
              go_wp2_with fail
              exact ⟨⟨A5, c5, (j : Int) :: l, rfl, by rw [← hl5]; exact HO6.out, HB6.out, .inl ⟨q, hq2', hqb, rfl, HWY.out⟩⟩, by simpa [intOf] using hql⟩
            · have hne' : beforeO (ClkD.mk w.heap.size wi hi a c xs al cl ps sa sc ss na nc) R.L j = (-1 : Int) := beforeO_stop hst'
              rw [hne'] at HBF
              have HBF := hid HBF
              have HWE := hid (way_end HW.out hst)
              clear hst hst' hne'
              go_wp2_with fail
              refine HBF.out.mono ?_
              rintro e w6 ⟨rfl, hb6⟩
              have HO6 := hid (own_step HO5.out hb6)
              have HB6 := hid (below_of HB5.out HB5.out.size hb6)
              clear hb6
              go_wp2_with fail
              exact ⟨⟨A5, c5, (j : Int) :: l, rfl, by rw [← hl5]; exact HO6.out, HB6.out, .inr ⟨rfl, HWE.out⟩⟩, by simp [intOf]⟩
          · have HW := hid hway
            clear own hbl hway
            go_wp2_with fail
            refine bodyPost_ret (v := .tuple #[.slice B l.length c2, .int .i64 0]) (by simp [results, Tryz.results20, go_sem]) rfl ?_
            rw [HG.out, HW.out]
            exact ⟨B, c2, rfl, HB3.out.trans (HBL.out.mono HB3.out.size), own_low HO.out HB3.out.size⟩
      · have hG := HGN.out (by rw [ht]; exact htb)
        have HG := hid hG
        rw [dn_ge htb] at HT1
        have B3 := HB3.out
        clear hG HGN HGY ht
        go_wp2_with fail
        refine HT1.out.mono ?_
        rintro e w4 ⟨rfl, rfl⟩
        go_wp2_with fail
        go_ret2
        rw [HG.out]
        exact ResS.empty B3
  all_goals (
    have HG := hid (show CriticalWayG wi hi xs ps ss i = ([], askedG wi hi xs ps ss) from wayG_no (by rw [h0]; decide))
    rw [h0] at H1 HG
    have HB0 := hid B0
    clear B0 hbd
    go_enter Tryz.func20, Tryz.ntmps20
    go_wp2_with fail
    rw [← hW0]
    clear hW0
    refine H1.out.mono ?_
    rintro e w1 ⟨rfl, hb1⟩
    have B1 := below_of HB0.out HB0.out.size hb1
    go_wp2_with fail
    go_ret2
    rw [HG.out]
    exact ResS.empty B1)
end Go.Proofs.YtnabedhhflfepaaGreat
