/-
  Pieces that are made slow: plain law, the reference's and the program's.
  Pieces that are made slow, the reference's.
  Conditions: the pieces are right ones, their number and the delay are small. the number of the pieces and the delay are small.
-/
import Derived.Test.YtgkgklgeobbmlaaLineC
namespace Go.Proofs.Ytgkgklgeobbmlaa
open Go.RowKit
set_option linter.unusedSimpArgs false
set_option linter.unusedVariables false

/-- What is left of the delay behind k pieces. -/
def lfK (left : Int) : Nat → Int
  | 0 => left
  | k + 1 => lfK left k - min (lfK left k) 8
theorem lf_ge {left : Int} (h : 0 ≤ left) : ∀ k, 0 ≤ lfK left k ∧ lfK left k ≤ left
  | 0 => ⟨h, Int.le_refl _⟩
  | k + 1 => by
    have := lf_ge h k
    unfold lfK
    omega
def slowTo (ps : List Pc) (left : Int) : Nat → List Pc
  | 0 => ps
  | k + 1 => match (slowTo ps left k)[k]? with
    | some p => (slowTo ps left k).set k { p with d := 1 + min (lfK left k) 8 }
    | none => slowTo ps left k
theorem slowTo_len (ps : List Pc) (left : Int) : ∀ k, (slowTo ps left k).length = ps.length
  | 0 => rfl
  | k + 1 => by
    unfold slowTo
    split
    · rw [List.length_set, slowTo_len ps left k]
    · exact slowTo_len ps left k
def slowL (ps : List Pc) (dl : Int) : List Pc := slowTo ps (dl - ps.length) ps.length
theorem slowL_len (ps : List Pc) (dl : Int) : (slowL ps dl).length = ps.length := slowTo_len _ _ _
def slowG (ps : List Pc) (dl : Int) : List Pc × Int := if dl < ps.length ∨ 9 * (ps.length : Int) < dl then ([], 6) else (slowL ps dl, 0)
theorem slowG_len (ps : List Pc) (dl : Int) : (slowG ps dl).1.length ≤ ps.length := by
  unfold slowG
  split
  · exact Nat.zero_le _
  · exact Nat.le_of_eq (slowL_len _ _)
theorem slow_step {ps : List Pc} {left : Int} {k : Nat} {p : Pc} (hp : (slowTo ps left k)[k]? = some p) : (slowTo ps left (k + 1)).flatMap Pc.enc = ((slowTo ps left k).flatMap Pc.enc).set (k * 5 + 4) (.int .i8 (1 + min (lfK left k) 8)) := by
  have e : slowTo ps left (k + 1) = (slowTo ps left k).set k { p with d := 1 + min (lfK left k) 8 } := by
    conv => lhs; unfold slowTo
    rw [hp]
  rw [e]
  exact flat_set_one Pc.enc_length p { p with d := 1 + min (lfK left k) 8 } 4 (.int .i8 (1 + min (lfK left k) 8)) (by decide) rfl _ _ hp
theorem idxF_P (F : Nat) (he : ∀ args W, (callFunc F args).run Try.prog W = .ok (.enter F args) W) (cs : Array Value) (P : Pc → Bool) (a : Option Addr) (c : Nat) (xs : List Pc) (w : World) (h : SlA Pc.enc 5 w a xs) (HF : ∀ p ∈ xs, ∀ W, Below w.heap.size w W → Calls Try.prog F (#[.agg #[.int .i8 p.x, .int .i8 p.y, .int .i8 p.k, .int .i8 p.t, .int .i8 p.d]] ++ cs) W fun e w' => e = .returned (.bool (P p)) ∧ Below W.heap.size W w') :
    Calls Try.prog 115 #[.slice a xs.length c, .func (.func F) #[] cs] w fun e w' => e = .returned (.int .i64 (idxOf P xs)) ∧ Below w.heap.size w w' := by
  have sa := h.small
  have HF := hid HF
  go_enter Try.func115, Try.ntmps115
  go_wp2_with fail
  go_loopw [8] (fun i wr => ∃ k : Nat, k ≤ xs.length ∧ i = .int .i64 k ∧ (xs.take k).any P = false ∧ Below w.heap.size w wr) (fun i _ => xs.length - (intOf i).toNat)
  case atStart => exact ⟨0, Nat.zero_le _, rfl, rfl, Below.refl _ _⟩
  case round =>
    obtain ⟨k, hk, rfl, ht, hbl⟩ := hrel
    by_cases hlt : k < xs.length
    · obtain ⟨b1, o1, rfl, hb1, hc1⟩ := (h.below hbl).cells (by omega)
      have e1 : xs[k]? = some xs[k] := List.getElem?_eq_getElem hlt
      have Hs := hid (HF.out _ (List.getElem_mem hlt) wr hbl)
      have Hp := hid e1
      have HT := hid ht
      clear ht e1
      generalize xs[k] = p at *
      obtain ⟨r, hr⟩ : ∃ r, P p = r := ⟨_, rfl⟩
      rw [hr] at Hs
      have Hr := hid hr
      have f0 : wr.cell? ⟨b1, o1 + k * 5, none⟩ = some (.int .i8 p.x) := hc1 k _ Hp.out 0 _ rfl
      have f1 : wr.cell? ⟨b1, o1 + k * 5 + 1, none⟩ = some (.int .i8 p.y) := hc1 k _ Hp.out 1 _ rfl
      have f2 : wr.cell? ⟨b1, o1 + k * 5 + 2, none⟩ = some (.int .i8 p.k) := hc1 k _ Hp.out 2 _ rfl
      have f3 : wr.cell? ⟨b1, o1 + k * 5 + 3, none⟩ = some (.int .i8 p.t) := hc1 k _ Hp.out 3 _ rfl
      have f4 : wr.cell? ⟨b1, o1 + k * 5 + 4, none⟩ = some (.int .i8 p.d) := hc1 k _ Hp.out 4 _ rfl
      clear hr hc1
      cases r
      · go_wp2_with fail
        refine Hs.out.mono ?_
        rintro e w1 ⟨rfl, hb9⟩
        go_wp2_with fail
        exact ⟨⟨k + 1, by omega, by go_num, any_step HT.out Hp.out Hr.out, below_of hbl hbl.size hb9⟩, by simp [intOf]; omega⟩
      · go_wp2_with fail
        refine Hs.out.mono ?_
        rintro e w1 ⟨rfl, hb9⟩
        go_wp2_with fail
        go_ret
        exact ⟨ret_int (idxOf_at HT.out Hp.out Hr.out).symm, below_of hbl hbl.size hb9⟩
    · obtain rfl : k = xs.length := by omega
      have HT := hid ht
      clear ht
      go_wp2_with fail
      go_ret
      refine ⟨ret_int ?_, hbl⟩
      have := HT.out
      rw [List.take_length] at this
      exact (idxOf_none this).symm
theorem anyF_P (F : Nat) (he : ∀ args W, (callFunc F args).run Try.prog W = .ok (.enter F args) W) (cs : Array Value) (P : Pc → Bool) (a : Option Addr) (c : Nat) (xs : List Pc) (w : World) (h : SlA Pc.enc 5 w a xs) (HF : ∀ p ∈ xs, ∀ W, Below w.heap.size w W → Calls Try.prog F (#[.agg #[.int .i8 p.x, .int .i8 p.y, .int .i8 p.k, .int .i8 p.t, .int .i8 p.d]] ++ cs) W fun e w' => e = .returned (.bool (P p)) ∧ Below W.heap.size W w') :
    Calls Try.prog 113 #[.slice a xs.length c, .func (.func F) #[] cs] w fun e w' => e = .returned (.bool (xs.any P)) ∧ Below w.heap.size w w' := by
  have Hs := hid (idxF_P F he cs P a c xs w h HF)
  have Hr := hid (idxOf_ge P xs)
  generalize idxOf P xs = v at *
  clear h HF
  go_enter Try.func113, Try.ntmps113
  go_wp2_with fail
  refine Hs.out.mono ?_
  rintro e w1 ⟨rfl, hb⟩
  go_wp2_with fail
  go_ret
  exact ⟨ret_bool Hr.out, hb⟩
theorem badPc_I (p : Pc) (w : World) (hp : p.Ok) :
    Calls Try.prog 114 #[.agg #[.int .i8 p.x, .int .i8 p.y, .int .i8 p.k, .int .i8 p.t, .int .i8 p.d]] w fun e w' => e = .returned (.bool (!pcOk p)) ∧ Below w.heap.size w w' := by
  obtain ⟨W0, hW0⟩ : ∃ W, W = w.alloc (.cells #[.int .i8 p.x, .int .i8 p.y, .int .i8 p.k, .int .i8 p.t, .int .i8 p.d] 98) := ⟨_, rfl⟩
  have B0 : Below w.heap.size w W0 := by rw [hW0]; exact (Below.refl _ _).alloc (Nat.le_refl _) _
  have HV := hid (piece_I p W0 hp)
  unfold Pc.enc at HV
  have HB := hid B0
  clear B0
  go_enter Try.func114, Try.ntmps114
  go_wp2_with fail
  rw [← hW0]
  clear hW0
  refine HV.out.mono ?_
  rintro e w1 ⟨rfl, hb⟩
  have HB1 := hid (below_of HB.out HB.out.size hb)
  clear hb
  go_wp2_with fail
  go_ret
  exact ⟨rfl, HB1.out⟩
/-- The code of pieces of a line. -/
def piecesG (ps : List Pc) : Int := if (ps.any fun p => !pcOk p) = true then 1 else if 120 < ps.length then 2 else 0
theorem piecesOk_I (a : Option Addr) (c : Nat) (ps : List Pc) (w : World) (h : SlA Pc.enc 5 w a ps) (ok : ∀ p ∈ ps, p.Ok) :
    Calls Try.prog 102 #[.slice a ps.length c] w fun e w' => e = .returned (.int .i64 (piecesG ps)) ∧ Below w.heap.size w w' := by
  have HA := hid (anyF_P 114 (enters_of Try.func114 (by kernel_rfl) rfl) #[] (fun p => !pcOk p) a c ps w h (fun p hp W hW => badPc_I p W (ok p hp)))
  have sa := h.small
  have HG := hid (show piecesG ps = if (ps.any fun p => !pcOk p) = true then 1 else if 120 < ps.length then 2 else 0 from rfl)
  generalize piecesG ps = R at *
  obtain ⟨b, hb⟩ : ∃ b, (ps.any fun p => !pcOk p) = b := ⟨_, rfl⟩
  rw [hb] at HA HG
  clear hb h
  go_enter Try.func102, Try.ntmps102
  go_wp2_with fail
  refine HA.out.mono ?_
  rintro e w1 ⟨rfl, hb1⟩
  cases b with
  | true =>
    have HR := hid (show R = 1 by rw [HG.out, if_pos rfl])
    go_wp2_with fail
    go_ret
    exact ⟨ret_int HR.out.symm, hb1⟩
  | false =>
    by_cases hl : 120 < ps.length
    · have HR := hid (show R = 2 by rw [HG.out, if_neg (by simp), if_pos hl])
      have hd : decide ((120 : Int) < (ps.length : Int)) = true := by rw [decide_eq_true_iff]; omega
      have hd2 : decide (120 < ps.length) = true := decide_eq_true hl
      clear hl
      go_wp2_with fail
      go_ret
      exact ⟨ret_int HR.out.symm, hb1⟩
    · have HR := hid (show R = 0 by rw [HG.out, if_neg (by simp), if_neg hl])
      have hd : decide ((120 : Int) < (ps.length : Int)) = false := by rw [decide_eq_false_iff_not]; omega
      have hd2 : decide (120 < ps.length) = false := decide_eq_false hl
      clear hl
      go_wp2_with fail
      go_ret
      exact ⟨ret_int HR.out.symm, hb1⟩
set_option maxRecDepth 100000 in
set_option maxHeartbeats 4000000 in
theorem SlowLine_I (a : Option Addr) (c n : Nat) (ps : List Pc) (dl : Int) (w : World) (hn : n = ps.length) (h : SlA Pc.enc 5 w a ps) (hc : a = none → c = 0) (ok : ∀ p ∈ ps, p.Ok ∧ pcOk p = true) (h0 : 0 < n) (h120 : n ≤ 120) (hdl : 0 ≤ dl ∧ dl ≤ 100000) :
    Calls Try.prog 74 #[.slice a n c, .int .i64 dl] w (ResS Pc.enc 5 98 w (slowG ps dl).1 (slowG ps dl).2) := by
  have hany : (ps.any fun p => !pcOk p) = false := by
    rw [List.any_eq_false]
    intro p hp
    simp [(ok p hp).2]
  have hpo : piecesG ps = 0 := by unfold piecesG; rw [hany, if_neg (by simp), if_neg (by omega)]
  have HP := hid (piecesOk_I a c ps w h (fun p hp => (ok p hp).1))
  rw [hpo, ← hn] at HP
  have HIn := hid (fun x lo hi W => in_I x lo hi W)
  have hb1 : inB dl 0 100000 = true := inB_it.2 hdl
  have HCl := hid (fun W (hW : Below w.heap.size w W) => clone_Pc_L a c ps W (h.below hW) hc (by omega))
  rw [← hn] at HCl
  have HG := hid (show slowG ps dl = if dl < n ∨ 9 * (n : Int) < dl then ([], 6) else (slowTo ps (dl - n) n, 0) by unfold slowG slowL; rw [hn])
  have HL := hid (fun k => (slowTo_len ps (dl - n) k).trans hn.symm)
  have HSt := hid (fun k p (hp : (slowTo ps (dl - n) k)[k]? = some p) => slow_step hp)
  have HLf := hid (fun k (hd : (n : Int) ≤ dl) => lf_ge (left := dl - n) (by omega) k)
  have HLn := hid (fun k => (show lfK (dl - n) (k + 1) = lfK (dl - n) k - min (lfK (dl - n) k) 8 from rfl))
  have HL0 := hid (show lfK (dl - n) 0 = dl - n from rfl)
  have HT0 := hid (show slowTo ps (dl - n) 0 = ps from rfl)
  have w9 : IntKind.i64.wrap (9 * (n : Int)) = 9 * (n : Int) := IntWalk.i64_in _ (by omega)
  have wl : IntKind.i64.wrap (dl - (n : Int)) = dl - (n : Int) := IntWalk.i64_in _ (by omega)
  generalize slowG ps dl = R at *
  generalize slowTo ps (dl - n) = T at *
  obtain ⟨b, hb⟩ : ∃ b, inB dl n (9 * (n : Int)) = b := ⟨_, rfl⟩
  have HBb := hid hb
  clear h ok hany hpo hn
  go_enter Try.func74, Try.ntmps74
  go_wp2_with fail
  refine HP.out.mono ?_
  rintro e w1 ⟨rfl, hb1'⟩
  have HB1 := hid hb1'
  clear hb1'
  go_wp2_with fail
  refine (HIn.out _ _ _ _).mono ?_
  rintro e w2 ⟨rfl, rfl⟩
  (try rw [hb1])
  go_wp2_with fail
  refine (HIn.out _ _ _ _).mono ?_
  rintro e w2 ⟨rfl, rfl⟩
  (try rw [hb])
  cases b with
  | false =>
    have HR := hid (show R = ([], 6) by
      rw [HG.out, if_pos]
      have hx := HBb.out
      rcases Int.lt_or_le dl n with h1 | h1
      · exact .inl h1
      · rcases Int.lt_or_le (9 * (n : Int)) dl with h2 | h2
        · exact .inr h2
        · rw [inB_it.2 ⟨h1, h2⟩] at hx; cases hx)
    clear hb hb1
    go_wp2_with fail
    go_ret2
    rw [HR.out]
    exact ResS.nil HB1.out
  | true =>
    have hx := inB_it.1 HBb.out
    have HR := hid (show R = (T n, 0) by rw [HG.out, if_neg (by omega)])
    have HC1 := hid (HCl.out w1 HB1.out)
    clear hb hb1
    go_wp2_with fail
    refine HC1.out.mono ?_
    rintro e w3 ⟨A3, c3, rfl, hb3, own3⟩
    have HB3 := hid (below_of HB1.out HB1.out.size hb3)
    obtain ⟨g, hA⟩ : ∃ g, A3 = some ⟨g, 0, none⟩ := by
      obtain ⟨g, cap', hv', _, _⟩ := own3.form h0
      injection hv' with hv1
      exact ⟨g, hv1⟩
    subst hA
    have HO3 := hid own3
    have HZ1 := hid HB1.out.size
    have hgl : w1.heap.size ≤ g := (own3.lt g rfl).1
    clear hb3 own3
    go_wp2_with fail
    go_loopw [9, 37] (fun lv iv wr => ∃ k : Nat, k ≤ n ∧ iv = .int .i64 k ∧ lv = .int .i64 (lfK (dl - n) k) ∧ wr.ownsRow w1.heap.size 98 5 (.slice (some ⟨g, 0, none⟩) n c3) n ((T k).flatMap Pc.enc) ∧ Below w.heap.size w wr) (fun _ iv _ => n - (intOf iv).toNat)
    case atStart => exact ⟨0, Nat.zero_le _, rfl, by rw [HL0.out], by rw [HT0.out]; exact HO3.out, HB3.out⟩
    case round =>
      obtain ⟨k, hk, rfl, rfl, own, hbl⟩ := hrel
      by_cases hlt : k < n
      · have hd : decide ((k : Int) < (n : Int)) = true := by rw [decide_eq_true_iff]; omega
        have hki : (k : Int) < (n : Int) := by omega
        have wk : IntKind.i64.wrap ((k : Int) + 1) = (k : Int) + 1 := IntWalk.i64_in _ (by omega)
        have hlf := HLf.out k (by omega)
        have hln := HLn.out k
        have hlT : k < (T k).length := by rw [HL.out]; exact hlt
        have e1 : (T k)[k]? = some ((T k)[k]'hlT) := List.getElem?_eq_getElem hlT
        have HS := hid (HSt.out k _ e1)
        obtain ⟨lf, hlfe⟩ : ∃ lf, lfK (dl - n) k = lf := ⟨_, rfl⟩
        rw [hlfe] at hlf hln HS ⊢
        obtain ⟨m, hm⟩ : ∃ m, min lf 8 = m := ⟨_, rfl⟩
        have hm0 : 0 ≤ m ∧ m ≤ 8 ∧ m ≤ lf := by omega
        rw [hm] at hln HS
        have HLN := hid hln
        have hmin : (if lf < 8 then lf else 8) = m := by rw [← hm]; split <;> omega
        have hmin2 : (if 8 < lf then 8 else lf) = m := by rw [← hm]; split <;> omega
        have w1m : IntKind.i64.wrap (1 + m) = 1 + m := IntWalk.i64_in _ (by omega)
        have w8m : IntKind.i8.wrap (1 + m) = 1 + m := IntWalk.i8_in _ (by omega)
        have wlm : IntKind.i64.wrap (lf - m) = lf - m := IntWalk.i64_in _ (by omega)
        have hst := own.stored (k * 5 + 4) (.int .i8 (1 + m))
        have HO := hid own
        have HBl := hid hbl
        have zf : wr.frozen? ⟨g, k * 5 + 4, none⟩ = false := own.frozenAt _
        have hcell : ∃ u, wr.cell? ⟨g, k * 5 + 4, none⟩ = some u := by
          have h5 : k * 5 + 4 < n * 5 := by omega
          have hl5 : ((T k).flatMap Pc.enc).length = n * 5 := own.1
          exact ⟨_, (own.cellAt (k * 5 + 4) h5).trans (List.getElem?_eq_getElem (by rw [hl5]; exact h5))⟩
        obtain ⟨u, hu⟩ := hcell
        have HSt1 := hid hst
        have hgw : w.heap.size ≤ g := Nat.le_trans HZ1.out hgl
        clear own hbl hst hlf hln e1 hlT hlfe hm
        go_wp2_with fail
        exact ⟨⟨k + 1, by omega, by go_num, by rw [HLN.out], by rw [HS.out]; exact HSt1.out.1, HBl.out.setCell (p := ⟨g, k * 5 + 4, none⟩) hgw _⟩, by simp [intOf]; omega⟩
      · obtain rfl : k = n := by omega
        have hd : decide ((k : Int) < (k : Int)) = false := by rw [decide_eq_false_iff_not]; omega
        have HO := hid own
        have HBl := hid hbl
        have HLk := hid (HL.out k)
        clear own hbl hlt
        go_wp2_with fail
        refine bodyPost_ret (v := .tuple #[.slice (some ⟨g, 0, none⟩) k c3, .int .i64 0]) (by simp [results, Try.results74, go_sem]) rfl ?_
        rw [HR.out]
        refine ⟨some ⟨g, 0, none⟩, c3, by rw [HLk.out], HBl.out, ?_⟩
        rw [HLk.out]
        exact own_low HO.out HZ1.out
theorem minD_S (x y : Int) (w : World) : Calls Try.prog 93 #[.int .i64 x, .int .i64 y] w fun e w' => e = .returned (.int .i64 (min x y)) ∧ w = w' := by
  go_enter Try.func93, Try.ntmps93
  go_wp2
  all_goals go_ret
  all_goals exact ⟨ret_int (by omega), rfl⟩
set_option maxRecDepth 100000 in
set_option maxHeartbeats 4000000 in
theorem slow_S (a : Option Addr) (c n : Nat) (ps : List Pc) (dl : Int) (w : World) (hn : n = ps.length) (h : SlA Pc.enc 5 w a ps) (hc : a = none → c = 0) (h0 : 0 < n) (h1000 : n ≤ 1000) (hdl : 0 ≤ dl ∧ dl ≤ 100000) :
    Calls Try.prog 57 #[.slice a n c, .int .i64 dl] w (ResS Pc.enc 5 98 w (slowG ps dl).1 (slowG ps dl).2) := by
  have HMin := hid (fun x y W => minD_S x y W)
  have HG := hid (show slowG ps dl = if dl < n ∨ 9 * (n : Int) < dl then ([], 6) else (slowTo ps (dl - n) n, 0) by unfold slowG slowL; rw [hn])
  have HL := hid (fun k => (slowTo_len ps (dl - n) k).trans hn.symm)
  have HSt := hid (fun k p (hp : (slowTo ps (dl - n) k)[k]? = some p) => slow_step hp)
  have HLf := hid (fun k (hd : (n : Int) ≤ dl) => lf_ge (left := dl - n) (by omega) k)
  have HLn := hid (fun k => (show lfK (dl - n) (k + 1) = lfK (dl - n) k - min (lfK (dl - n) k) 8 from rfl))
  have HL0 := hid (show lfK (dl - n) 0 = dl - n from rfl)
  have HT0 := hid (show slowTo ps (dl - n) 0 = ps from rfl)
  have w9 : IntKind.i64.wrap (9 * (n : Int)) = 9 * (n : Int) := IntWalk.i64_in _ (by omega)
  have HNn := hid hn
  have HFl := hid (fun o => (h.below ((Below.refl _ _).alloc (Nat.le_refl _) o) : SlA Pc.enc 5 (w.alloc o) a ps).flat Pc.enc_length)
  have HFn := hid (flatMap_len Pc.enc_length ps)
  generalize slowG ps dl = R at *
  generalize slowTo ps (dl - n) = T at *
  clear h hn
  go_enter Try.func57, Try.ntmps57
  by_cases hb : dl < n ∨ 9 * (n : Int) < dl
  · have HR := hid (show R = ([], 6) by rw [HG.out, if_pos hb])
    have hs : decide (dl < (n : Int)) = true ∨ (decide (dl < (n : Int)) = false ∧ decide (9 * (n : Int) < dl) = true) := by
      by_cases h1 : dl < n
      · exact .inl (decide_eq_true h1)
      · exact .inr ⟨decide_eq_false h1, decide_eq_true (hb.resolve_left h1)⟩
    clear hb
    rcases hs with hs | ⟨hs, hs2⟩
    all_goals (
      go_wp2_with fail
      refine bodyPost_ret (v := .tuple #[.slice (some ⟨w.heap.size, 0, none⟩) 0 0, .int .i64 6]) (by simp [results, Try.results57, go_sem]) rfl ?_
      rw [HR.out]
      exact ResS.empty (Below.refl _ _))
  · have HR := hid (show R = (T n, 0) by rw [HG.out, if_neg hb])
    have hs : decide (dl < (n : Int)) = false := decide_eq_false (fun h => hb (.inl h))
    have hs2 : decide (9 * (n : Int) < dl) = false := decide_eq_false (fun h => hb (.inr h))
    have hx : (n : Int) ≤ dl ∧ dl ≤ 9 * (n : Int) := by omega
    clear hb
    go_wp2_with (at_builtin; refine app_many rfl _ _ 30 rfl w.heap.size 98 (.agg Pc.z.enc.toArray) 5 5 Try.underlying30 (by kernel_rfl) rfl (by decide) _ 0 [] rfl (World.ownsRow_lit w #[] 0 (Nat.le_refl _) (by simp [maxLen]) (by simp)) a n c (ps.flatMap Pc.enc) rfl ?c1 ?c6 ?c2 ?c3 ?c4 (by decide) ?c5 ?_)
    case c1 => rw [HFn.out, HNn.out]
    case c6 => rw [HNn.out]; exact HFl.out _
    case c2 => exact oneCell_flat (fun p u hu => by simp [Pc.enc] at hu; rcases hu with rfl | rfl | rfl | rfl | rfl <;> rfl) _
    case c3 => exact fun h => absurd h (by omega)
    case c4 => omega
    case c5 => simp
    intro v1 w1 own1 hg1 hat
    try simp only [Nat.zero_add, List.nil_append] at own1
    obtain ⟨A1, c1, rfl⟩ := own_slice own1
    obtain ⟨g, hA⟩ : ∃ g, A1 = some ⟨g, 0, none⟩ := by
      obtain ⟨g, cap', hv', _, _⟩ := own1.form h0
      injection hv' with hv1
      exact ⟨g, hv1⟩
    subst hA
    have HO1 := hid own1
    have HB1 := hid (((Below.refl w.heap.size w).alloc (Nat.le_refl _) (.cells #[] 98)).grown hg1 (by simp) (by simp [Value.ownBlock]))
    have hgl : w.heap.size ≤ g := (own1.lt g rfl).1
    clear own1 hg1 hat hs hs2
    try simp only [Nat.zero_add]
    go_wp2_with fail
    go_loopw [1, 8] (fun lv iv wr => ∃ k : Nat, k ≤ n ∧ iv = .int .i64 k ∧ lv = .int .i64 (lfK (dl - n) k + ((n : Int) - k)) ∧ wr.ownsRow w.heap.size 98 5 (.slice (some ⟨g, 0, none⟩) n c1) n ((T k).flatMap Pc.enc) ∧ Below w.heap.size w wr) (fun _ iv _ => n - (intOf iv).toNat)
    case atStart => exact ⟨0, Nat.zero_le _, rfl, congrArg (Value.int .i64) (by rw [HL0.out]; omega), by rw [HT0.out]; exact HO1.out, HB1.out⟩
    case round =>
      obtain ⟨k, hk, rfl, rfl, own, hbl⟩ := hrel
      by_cases hlt : k < n
      · have hd : decide ((k : Int) < (n : Int)) = true := by rw [decide_eq_true_iff]; omega
        have hki : (k : Int) < (n : Int) := by omega
        have wk : IntKind.i64.wrap ((k : Int) + 1) = (k : Int) + 1 := IntWalk.i64_in _ (by omega)
        have hlf := HLf.out k hx.1
        have hln := HLn.out k
        have hlT : k < (T k).length := by rw [HL.out]; exact hlt
        have e1 : (T k)[k]? = some ((T k)[k]'hlT) := List.getElem?_eq_getElem hlT
        have HS := hid (HSt.out k _ e1)
        obtain ⟨lf, hlfe⟩ : ∃ lf, lfK (dl - n) k = lf := ⟨_, rfl⟩
        rw [hlfe] at hlf hln HS ⊢
        obtain ⟨m, hm⟩ : ∃ m, min lf 8 = m := ⟨_, rfl⟩
        have hm0 : 0 ≤ m ∧ m ≤ 8 ∧ m ≤ lf := by omega
        rw [hm] at hln HS
        have HLN := hid hln
        have wn1 : IntKind.i64.wrap ((n : Int) - 1) = (n : Int) - 1 := IntWalk.i64_in _ (by omega)
        have wn2 : IntKind.i64.wrap ((n : Int) - 1 - (k : Int)) = (n : Int) - 1 - (k : Int) := IntWalk.i64_in _ (by omega)
        have wn3 : IntKind.i64.wrap (lf + ((n : Int) - (k : Int)) - ((n : Int) - 1 - (k : Int))) = lf + 1 := by
          rw [show lf + ((n : Int) - (k : Int)) - ((n : Int) - 1 - (k : Int)) = lf + 1 by omega]
          exact IntWalk.i64_in _ (by omega)
        have hmin : min (9 : Int) (lf + 1) = 1 + m := by rw [← hm]; omega
        have w8m : IntKind.i8.wrap (1 + m) = 1 + m := IntWalk.i8_in _ (by omega)
        have wlm : IntKind.i64.wrap (lf + ((n : Int) - (k : Int)) - (1 + m)) = lf + ((n : Int) - (k : Int)) - (1 + m) := IntWalk.i64_in _ (by omega)
        have hst := own.stored (k * 5 + 4) (.int .i8 (1 + m))
        have HO := hid own
        have HBl := hid hbl
        have zf : wr.frozen? ⟨g, k * 5 + 4, none⟩ = false := own.frozenAt _
        have hcell : ∃ u, wr.cell? ⟨g, k * 5 + 4, none⟩ = some u := by
          have h5 : k * 5 + 4 < n * 5 := by omega
          have hl5 : ((T k).flatMap Pc.enc).length = n * 5 := own.1
          exact ⟨_, (own.cellAt (k * 5 + 4) h5).trans (List.getElem?_eq_getElem (by rw [hl5]; exact h5))⟩
        obtain ⟨u, hu⟩ := hcell
        have HSt1 := hid hst
        clear own hbl hst hlf hln e1 hlT hlfe hm
        go_wp2_with fail
        refine (HMin.out _ _ _).mono ?_
        rintro e w2 ⟨rfl, rfl⟩
        (try rw [hmin])
        go_wp2_with fail
        exact ⟨⟨k + 1, by omega, by go_num, congrArg (Value.int .i64) (by rw [HLN.out]; omega), by rw [HS.out]; exact HSt1.out.1, HBl.out.setCell (p := ⟨g, k * 5 + 4, none⟩) hgl _⟩, by simp [intOf]; omega⟩
      · obtain rfl : k = n := by omega
        have hd : decide ((k : Int) < (k : Int)) = false := by rw [decide_eq_false_iff_not]; omega
        have HO := hid own
        have HBl := hid hbl
        have HLk := hid (HL.out k)
        clear own hbl hlt
        go_wp2_with fail
        refine bodyPost_ret (v := .tuple #[.slice (some ⟨g, 0, none⟩) k c1, .int .i64 0]) (by simp [results, Try.results57, go_sem]) rfl ?_
        rw [HR.out]
        refine ⟨some ⟨g, 0, none⟩, c1, by rw [HLk.out], HBl.out, ?_⟩
        rw [HLk.out]
        exact HO.out
end Go.Proofs.Ytgkgklgeobbmlaa
