/-
  Plain law: lines that are laid for several ways, one behind the other.
  Lines for several ways, the reference's.
  Lines for several ways, the program's.
  LayAll, both the program's and the reference's.
  Conditions: none; plain law. the fields are in their kinds' ranges.
-/
import Derived.Test.YtgkgklgeobbmlaaDelI
import Derived.Test.YtgkgklgeobbmlaaLawK
namespace Go.Proofs.Ytgkgklgeobbmlaa
open Go.RowKit
set_option linter.unusedSimpArgs false
set_option linter.unusedVariables false

def allG (wi hi : Int) : List Pc → List Wy → (Int × Int × List Pc) × Int
  | xs, [] => ((wi, hi, xs), 0)
  | xs, w :: ws => if wayB wi hi xs w = true then (if (lineG wi hi xs w).2 = 0 then allG wi hi (lineG wi hi xs w).1.2.2 ws else ((0, 0, []), (lineG wi hi xs w).2)) else ((0, 0, []), 1)
theorem line_pcs_at {P : List Ce} {side out : Int} {i : Nat} {q : Pc} (h : (lineL P side out)[i]? = some q) : ∃ c, P[i]? = some c ∧ q.x = c.x ∧ q.y = c.y := by
  have hi : i < P.length := by have := (List.getElem?_eq_some_iff.1 h).1; rwa [lineL_len] at this
  unfold lineL at h
  rw [List.getElem?_map, List.getElem?_range hi] at h
  injection h with h
  have hp : P[i]? = some P[i] := List.getElem?_eq_getElem hi
  refine ⟨P[i], hp, ?_, ?_⟩
  · rw [← h]; unfold linePc; rw [getD_of hp]; rfl
  · rw [← h]; unfold linePc; rw [getD_of hp]; rfl
theorem lay_ok {wi hi : Int} {xs : List Pc} {p : Wy} (hb : bdOk wi hi xs = true) (hw : wayB wi hi xs p = true) (h0 : (lineG wi hi xs p).2 = 0) :
    ∃ P, LnOk wi hi xs p P ∧ lineG wi hi xs p = ((wi, hi, xs ++ lineL P p.sd p.ou), 0) ∧ xs.length + P.length ≤ 200 ∧ P.length ≤ 120 := by
  unfold lineG at h0 ⊢
  by_cases hc : (shortG wi hi xs p).2 = 0
  · rw [if_pos hc] at h0 ⊢
    have hln := short_ln hw hc
    unfold layG at h0 ⊢
    by_cases hl : 200 < xs.length + (shortG wi hi xs p).1.length ∨ 120 < (shortG wi hi xs p).1.length
    · rw [if_pos hl] at h0
      exact absurd (show (3 : Int) = 0 from h0) (by decide)
    · rw [if_neg hl]
      exact ⟨_, hln, rfl, by omega, by omega⟩
  · rw [if_neg hc] at h0
    exact absurd h0 hc
theorem bd_more {wi hi : Int} {xs : List Pc} {p : Wy} {P : List Ce} {L : List Pc} (hb : bdOk wi hi xs = true) (hln : LnOk wi hi xs p P) (hl : xs.length + P.length ≤ 200) (hLl : L.length = P.length) (hLp : ∀ q ∈ L, pcOk q = true) (hLc : ∀ (i : Nat) (q : Pc), L[i]? = some q → ∃ c, P[i]? = some c ∧ q.x = c.x ∧ q.y = c.y) : bdOk wi hi (xs ++ L) = true := by
  have hb' := hb
  unfold bdOk at hb'
  simp only [Bool.and_eq_true, List.all_eq_true, List.mem_range] at hb'
  obtain ⟨h1, h2, h3, h4⟩ := hb'
  refine bdOk_true h1 h2 (by rw [List.length_append, hLl]; omega) (fun j hj => ?_)
  by_cases hjx : j < xs.length
  · have := h4 j hjx
    unfold okAt at this ⊢
    rw [List.getElem?_append_left hjx, List.take_append_of_le_length (Nat.le_of_lt hjx)]
    exact this
  · rw [List.length_append] at hj
    obtain ⟨i, rfl⟩ : ∃ i, j = xs.length + i := ⟨j - xs.length, by omega⟩
    have hi : i < L.length := by omega
    have hq : L[i]? = some L[i] := List.getElem?_eq_getElem hi
    obtain ⟨c, hc, hx, hy⟩ := hLc i _ hq
    have hfr := hln.fr c (List.mem_of_getElem? hc)
    unfold freeG at hfr
    rw [Bool.and_eq_true] at hfr
    unfold okAt
    rw [List.getElem?_append_right (by omega), Nat.add_sub_cancel_left, hq]
    dsimp only
    rw [hLp _ (List.getElem_mem hi), hx, hy, hfr.1]
    have htk : (xs ++ L).take (xs.length + i) = xs ++ L.take i := by rw [List.take_append, List.take_of_length_le (by omega), Nat.add_sub_cancel_left]
    rw [htk, List.any_append]
    have hx0 : xs.any (atC c.x c.y) = false := by simpa using hfr.2
    rw [hx0]
    have hl0 : (L.take i).any (atC c.x c.y) = false := by
      rw [List.any_eq_false]
      intro q hq2 ha
      obtain ⟨k, hk⟩ := List.mem_iff_getElem?.1 hq2
      rw [List.getElem?_take] at hk
      split at hk
      · rename_i hki
        obtain ⟨c2, hc2, hx2, hy2⟩ := hLc k q hk
        unfold atC at ha
        rw [decide_eq_true_iff] at ha
        have : c2 = c := by cases c; cases c2; simp_all
        have := hln.line.nd k i c2 hc2 (by rw [this]; exact hc)
        omega
      · cases hk
    rw [hl0]
    rfl
/-- A board with a line more is a right one. -/
theorem lay_bd {wi hi : Int} {xs : List Pc} {p : Wy} (hb : bdOk wi hi xs = true) (hw : wayB wi hi xs p = true) (h0 : (lineG wi hi xs p).2 = 0) : bdOk wi hi (lineG wi hi xs p).1.2.2 = true ∧ (lineG wi hi xs p).1.1 = wi ∧ (lineG wi hi xs p).1.2.1 = hi ∧ (∀ q ∈ (lineG wi hi xs p).1.2.2, q ∈ xs ∨ q.Ok) := by
  obtain ⟨P, hln, hG, h200, h120⟩ := lay_ok hb hw h0
  obtain ⟨hwi, hhi, _⟩ := bd_in hb
  have hin := ln_in hln hwi.2 hhi.2
  rw [hG]
  refine ⟨bd_more hb hln h200 (lineL_len _ _ _) (fun q hq => (line_pcs hln.line hin q hq).2) (fun i q hq => line_pcs_at hq), rfl, rfl, fun q hq => ?_⟩
  rcases List.mem_append.1 hq with h | h
  · exact .inl h
  · exact .inr (line_pcs hln.line hin q h).1
/-- One way more. -/
theorem all_step {wi hi : Int} {xs : List Pc} {w : Wy} {ws : List Wy} : allG wi hi xs (w :: ws) = if wayB wi hi xs w = true then (if (lineG wi hi xs w).2 = 0 then allG wi hi (lineG wi hi xs w).1.2.2 ws else ((0, 0, []), (lineG wi hi xs w).2)) else ((0, 0, []), 1) := rfl
theorem all_line {wi hi : Int} {xs : List Pc} {w : Wy} {ws : List Wy} (hb : bdOk wi hi xs = true) : allG wi hi xs (w :: ws) = if (LayLineG wi hi xs w).2 = 0 then allG wi hi (LayLineG wi hi xs w).1.2.2 ws else ((0, 0, []), (LayLineG wi hi xs w).2) := by
  rw [all_step]
  by_cases hw : wayB wi hi xs w = true
  · have e : LayLineG wi hi xs w = lineG wi hi xs w := by unfold LayLineG; rw [if_pos ⟨hb, hw⟩]
    rw [if_pos hw, e]
  · have e : LayLineG wi hi xs w = ((0, 0, []), 1) := by unfold LayLineG; rw [if_neg (fun h => hw h.2)]
    rw [if_neg hw, e]
    rfl
theorem line_bd {wi hi : Int} {xs : List Pc} {p : Wy} (hb : bdOk wi hi xs = true) (h0 : (LayLineG wi hi xs p).2 = 0) : bdOk wi hi (LayLineG wi hi xs p).1.2.2 = true ∧ (LayLineG wi hi xs p).1.1 = wi ∧ (LayLineG wi hi xs p).1.2.1 = hi ∧ (∀ q ∈ (LayLineG wi hi xs p).1.2.2, q ∈ xs ∨ q.Ok) := by
  by_cases hw : wayB wi hi xs p = true
  · have e : LayLineG wi hi xs p = lineG wi hi xs p := by unfold LayLineG; rw [if_pos ⟨hb, hw⟩]
    rw [e] at h0 ⊢
    exact lay_bd hb hw h0
  · have e : LayLineG wi hi xs p = ((0, 0, []), 1) := by unfold LayLineG; rw [if_neg (fun h => hw h.2)]
    rw [e] at h0
    exact absurd (show (1 : Int) = 0 from h0) (by decide)
def LayAllG (wi hi : Int) (xs : List Pc) (ws : List Wy) : (Int × Int × List Pc) × Int × Int :=
  if bdOk wi hi xs = true then (if ws.length ≤ 12 then (if (allG wi hi xs ws).2 = 0 then ((allG wi hi xs ws).1, ((allG wi hi xs ws).1.2.2.length : Int) - xs.length, 0) else ((0, 0, []), 0, (allG wi hi xs ws).2)) else ((0, 0, []), 0, 2)) else ((0, 0, []), 0, 1)
theorem all_len {wi hi : Int} : ∀ (ws : List Wy) {xs : List Pc}, bdOk wi hi xs = true → (allG wi hi xs ws).1.2.2.length ≤ 200
  | [], xs, hb => (bd_in hb).2.2
  | w :: ws, xs, hb => by
    rw [all_line hb]
    split
    · rename_i h0
      exact all_len ws (line_bd hb h0).1
    · exact Nat.zero_le _
/-- A board in the end has the same sides. -/
theorem all_sides {wi hi : Int} : ∀ (ws : List Wy) {xs : List Pc}, bdOk wi hi xs = true → (allG wi hi xs ws).2 = 0 → (allG wi hi xs ws).1.1 = wi ∧ (allG wi hi xs ws).1.2.1 = hi
  | [], xs, hb, _ => ⟨rfl, rfl⟩
  | w :: ws, xs, hb, h => by
    rw [all_line hb] at h ⊢
    by_cases h0 : (LayLineG wi hi xs w).2 = 0
    · rw [if_pos h0] at h ⊢
      exact all_sides ws (line_bd hb h0).1 h
    · rw [if_neg h0] at h
      exact absurd h h0
def cntZ (n : Nat) : List Int := (List.range n).map (fun (k : Nat) => (k : Int))
theorem cntZ_next (n : Nat) : cntZ (n + 1) = cntZ n ++ [(n : Int)] := by unfold cntZ; rw [List.range_succ, List.map_append]; rfl
theorem cntZ_len (n : Nat) : (cntZ n).length = n := by unfold cntZ; rw [List.length_map, List.length_range]
set_option maxRecDepth 100000 in
theorem count_S5 (n : Nat) (w : World) (hn : n ≤ 1048576) :
    Calls Try.prog 40 #[.int .i64 n] w (ResR en1 1 2 w (cntZ n)) := by
  go_enter Try.func40, Try.ntmps40
  go_wp2_with fail
  go_loopw [3, 4] (fun o iv wr => ∃ (k : Nat) (A : Option Addr) (cc : Nat), k ≤ n ∧ iv = .int .i64 k ∧ o = .slice A k cc ∧ wr.ownsRow w.heap.size 2 1 (.slice A k cc) k ((cntZ k).flatMap en1) ∧ Below w.heap.size w wr) (fun _ iv _ => n - (intOf iv).toNat)
  case atStart => exact ⟨0, _, _, Nat.zero_le _, rfl, rfl, World.ownsRow_lit w #[] 0 (Nat.le_refl _) (by simp [maxLen]) (by simp), (Below.refl _ _).alloc (Nat.le_refl _) _⟩
  case round =>
    obtain ⟨k, A, cc, hk, rfl, rfl, own, hbl⟩ := hrel
    have Ho := hid own
    have HB := hid hbl
    have hz := hbl.size
    by_cases hlt : k < n
    · have hd : decide ((k : Int) < (n : Int)) = true := by rw [decide_eq_true_iff]; omega
      have wk : IntKind.i64.wrap ((k : Int) + 1) = (k : Int) + 1 := IntWalk.i64_in _ (by omega)
      clear own hbl
      go_wp2_with (at_builtin; refine app_one (w := wr) 52 2 (.int .i64 0) 1 8 Try.underlying52 (by kernel_rfl) rfl (by decide) w.heap.size _ k _ Ho.out ?c1 (by decide) hz [.int .i64 k] _ _ rfl rfl rfl _ rfl ?c3 rfl (by intro u hu; simp at hu; subst hu; rfl) ?_)
      case c1 => omega
      case c3 => rfl
      intro A5 c5 w5 own5 hb5 hg5 hat5
      have HO5 := hid own5
      have HB5 := hid (HB.out.trans hb5)
      clear own5 hb5 hg5 hat5
      go_wp2_with fail
      refine ⟨⟨k + 1, A5, c5, by omega, by go_num, rfl, ?_, HB5.out⟩, by simp [intOf]; omega⟩
      rw [cntZ_next, List.flatMap_append]
      exact HO5.out
    · obtain rfl : k = n := by omega
      have hd : decide ((k : Int) < (k : Int)) = false := by rw [decide_eq_false_iff_not]; omega
      clear own hbl
      go_wp2_with fail
      go_ret
      exact ⟨A, cc, by rw [cntZ_len]; rfl, HB.out, by rw [cntZ_len]; exact Ho.out⟩
/-- The memory of laying: a board in a box, its pieces in a row of one's own. -/
structure NowB (w wr : World) (rb nb : Nat) (wi hi : Int) (ys : List Pc) (A : Option Addr) (c : Nat) : Prop where
  bel : Below w.heap.size w wr
  now : BoQ wr nb wi hi A ys.length c
  res : BoQ wr rb 0 0 none 0 0
  row : wr.ownsRow w.heap.size 98 5 (.slice A ys.length c) ys.length (ys.flatMap Pc.enc)
  ne : ∀ k, (Value.slice A ys.length c).ownBlock = some k → k ≠ nb ∧ k ≠ rb
  rn : rb ≠ nb
  nl : w.heap.size ≤ nb
  rl : w.heap.size ≤ rb
theorem NowB.below {w wr w1 : World} {rb nb : Nat} {wi hi : Int} {ys : List Pc} {A : Option Addr} {c : Nat} (h : NowB w wr rb nb wi hi ys A c) (hb : Below wr.heap.size wr w1) : NowB w w1 rb nb wi hi ys A c :=
  ⟨below_of h.bel h.bel.size hb, h.now.below hb, h.res.below hb, own_step h.row hb, h.ne, h.rn, h.nl, h.rl⟩
theorem NowB.store {w wr : World} {rb nb : Nat} {wi hi wi2 hi2 : Int} {ys zs : List Pc} {A A2 : Option Addr} {c c2 n2 : Nat} (h : NowB w wr rb nb wi hi ys A c) (hn : n2 = zs.length) (hrow : wr.ownsRow w.heap.size 98 5 (.slice A2 n2 c2) n2 (zs.flatMap Pc.enc)) (hne : ∀ k, (Value.slice A2 n2 c2).ownBlock = some k → k ≠ nb ∧ k ≠ rb) :
    NowB w (((wr.setCell ⟨nb, 0, none⟩ (.int .i8 wi2)).setCell ⟨nb, 1, none⟩ (.int .i8 hi2)).setCell ⟨nb, 2, none⟩ (.slice A2 n2 c2)) rb nb wi2 hi2 zs A2 c2 := by
  subst hn
  exact ⟨below_set3 h.bel h.nl, h.now.store3, ((h.res.other (fun e => h.rn e.symm)).other (fun e => h.rn e.symm)).other (fun e => h.rn e.symm), own_setE (own_setE (own_setE hrow (fun k hk => (hne k hk).1) _) (fun k hk => (hne k hk).1) _) (fun k hk => (hne k hk).1) _, hne, h.rn, h.nl, h.rl⟩
theorem way_at {w : World} {lb lo : Nat} {ws : List Wy} (hc : ∀ i p, ws[i]? = some p → ∀ j u, (Wy.enc p)[j]? = some u → w.cell? ⟨lb, lo + (i * 6 + j), none⟩ = some u) (hlt : lb < w.heap.size) {i : Nat} {p : Wy} (h : ws[i]? = some p) : WyO w lb (lo + i * 6) p :=
  ⟨hlt, hc i p h 0 _ rfl, hc i p h 1 _ rfl, hc i p h 2 _ rfl, hc i p h 3 _ rfl, hc i p h 4 _ rfl, hc i p h 5 _ rfl, hc i p h 4 _ rfl⟩
set_option maxRecDepth 100000 in
set_option maxHeartbeats 16000000 in
theorem all_LS (bb : Nat) (wi hi : Int) (a : Option Addr) (c : Nat) (xs : List Pc) (hs : xs.length ≤ 1048576) (hnc : a = none → c = 0) (ok : ∀ p ∈ xs, p.Ok) (hbo : bdOk wi hi xs = true) (al : Option Addr) (cl nl : Nat) (ws : List Wy) (hnl : nl = ws.length) (okw : ∀ p ∈ ws, p.Ok) (ao : Option Addr) (co no : Nat) (os : List Int) (hno : no = os.length) (hno2 : no ≤ 1048576) (hix : ∀ i ∈ os, 0 ≤ i ∧ i < (nl : Int))
    (w : World) (hb : BdA w bb wi hi a xs.length c) (h : SlA Pc.enc 5 w a xs) (hw : SlA Wy.enc 6 w al ws) (ho : SlA en1 1 w ao os) :
    Calls Try.prog 39 #[.pointer (some ⟨bb, 0, none⟩), .slice al nl cl, .slice ao no co] w (ResK w (allG wi hi xs (os.map (fun i => ws.getD i.toNat ⟨0, 0, 0, 0, 0, 0⟩)))) := by
  obtain ⟨hwi, hhi, hx200⟩ := bd_in hbo
  obtain ⟨W1, hW1⟩ : ∃ W, W = w.alloc (.cells #[.int .i8 0, .int .i8 0, .slice none 0 0] 32) := ⟨_, rfl⟩
  have B1 : Below w.heap.size w W1 := by rw [hW1]; exact (Below.refl _ _).alloc (Nat.le_refl _) _
  have HR := hid (show BoQ W1 w.heap.size 0 0 none 0 0 by rw [hW1]; exact boq_new _ _ _ _ _ _ _)
  have hz1 : w.heap.size < W1.heap.size := by rw [hW1]; simp
  have HK := hid (fun W (hW : Below w.heap.size w W) => (⟨hw.below hW, ho.below hW⟩ : SlA Wy.enc 6 W al ws ∧ SlA en1 1 W ao os))
  have HCp := hid (copy_S bb wi hi a c xs W1 hs (hb.below B1 hb.lt) (h.below B1) hnc)
  have HB1 := hid B1
  have HIx := hid hix
  have HNl := hid hnl
  have HNo := hid hno
  have HOw := hid okw
  obtain ⟨ms, hms⟩ : ∃ ms, os.map (fun i => ws.getD i.toNat ⟨0, 0, 0, 0, 0, 0⟩) = ms := ⟨_, rfl⟩
  have HMs := hid (fun (k : Nat) (i : Int) (hk : os[k]? = some i) => (show ∃ p, ws[i.toNat]? = some p ∧ ms.drop k = p :: ms.drop (k + 1) by
    have h1 := hix i (List.mem_of_getElem? hk)
    have hlt : i.toNat < ws.length := by omega
    have e1 : ws[i.toNat]? = some ws[i.toNat] := List.getElem?_eq_getElem hlt
    have hkl : k < ms.length := by rw [← hms, List.length_map]; exact (List.getElem?_eq_some_iff.1 hk).1
    refine ⟨_, e1, ?_⟩
    rw [List.drop_eq_getElem_cons hkl]
    congr 1
    have : ms[k]? = some (ws.getD i.toNat ⟨0, 0, 0, 0, 0, 0⟩) := by rw [← hms, List.getElem?_map, hk]; rfl
    rw [List.getElem?_eq_getElem hkl] at this
    injection this with this
    rw [this, List.getD_eq_getElem?_getD, e1]; rfl))
  have HMl := hid (show ms.drop no = [] from List.drop_eq_nil_of_le (by rw [← hms, List.length_map, hno]; exact Nat.le_refl _))
  rw [hms]
  obtain ⟨G, hG⟩ : ∃ G, allG wi hi xs ms = G := ⟨_, rfl⟩
  have HG := hid hG
  rw [hG]
  have HBo := hid hbo
  have HOk := hid ok
  clear hb h hw ho hms hG B1 hnl hno hix okw hbo ok
  obtain ⟨rb, hrb⟩ : ∃ rb, w.heap.size = rb := ⟨_, rfl⟩
  have HRb := hid hrb
  rw [hrb] at HR hz1
  go_enter Try.func39, Try.ntmps39
  go_upto_region 1 with fail
  rw [← hW1]
  (try rw [hrb])
  clear hW1 hrb
  go_wp2_with fail
  refine HCp.out.mono ?_
  rintro e w2 ⟨A2, c2, rfl, hb2, own2⟩
  obtain ⟨W3, hW3⟩ : ∃ W, W = w2.alloc (.cells #[.int .i8 wi, .int .i8 hi, .slice A2 xs.length c2] 32) := ⟨_, rfl⟩
  have hb3 : Below w2.heap.size w2 W3 := by rw [hW3]; exact (Below.refl _ _).alloc (Nat.le_refl _) _
  have hb12 := below_of HB1.out HB1.out.size hb2
  have HN3 : Hid (NowB w W3 rb w2.heap.size wi hi xs A2 c2) := hid ⟨below_of hb12 hb12.size hb3, by rw [hW3]; exact boq_new _ _ _ _ _ _ _, (HR.out.below hb2).below hb3, own_low (own_step own2 hb3) HB1.out.size, fun k hk => by
    have h1 := own2.lt k hk
    omega, by have := hb2.size; omega, hb12.size, by have := HRb.out; omega⟩
  go_upto_region 3 with fail
  rw [← hW3]
  obtain ⟨nb, hnb⟩ : ∃ nb, w2.heap.size = nb := ⟨_, rfl⟩
  rw [hnb] at HN3
  (try rw [hnb])
  clear hW3 hb3 hb12 hb2 own2 hnb HR HB1
  go_loopw [9] (fun iv wr => ∃ (k : Nat) (ys : List Pc) (A : Option Addr) (c' : Nat), k ≤ no ∧ iv = .int .i64 k ∧ NowB w wr rb nb wi hi ys A c' ∧ bdOk wi hi ys = true ∧ (∀ q ∈ ys, q.Ok) ∧ allG wi hi ys (ms.drop k) = G) (fun iv _ => no - (intOf iv).toNat)
  case atStart => exact ⟨0, xs, A2, c2, Nat.zero_le _, rfl, HN3.out, HBo.out, HOk.out, by rw [List.drop_zero]; exact HG.out⟩
  case round =>
    obtain ⟨k, ys, A, c', hk, rfl, hnow, hbd, hok, hgr⟩ := hrel
    have HNow := hid hnow
    have HBd := hid hbd
    have HOkY := hid hok
    have HGr := hid hgr
    obtain ⟨hw1, ho1⟩ := HK.out wr hnow.bel
    by_cases hlt : k < no
    · have hd : decide ((k : Int) < (no : Int)) = true := by rw [decide_eq_true_iff]; omega
      have hki : (k : Int) < (no : Int) := by omega
      have wk : IntKind.i64.wrap ((k : Int) + 1) = (k : Int) + 1 := IntWalk.i64_in _ (by omega)
      obtain ⟨ob, oo, rfl, hob, hoc⟩ := ho1.cells (by have := HNo.out; omega)
      have ek : os[k]? = some (os[k]'(by have := HNo.out; omega)) := List.getElem?_eq_getElem _
      obtain ⟨p, hp, hdr⟩ := HMs.out k _ ek
      have hci := hoc k _ ek 0 _ rfl
      have hi0 := HIx.out _ (List.mem_of_getElem? ek)
      generalize os[k]'_ = i at *
      obtain ⟨j, rfl⟩ : ∃ j : Nat, i = (j : Int) := ⟨i.toNat, by omega⟩
      rw [Int.toNat_natCast] at hp
      have hjl : j < ws.length := (List.getElem?_eq_some_iff.1 hp).1
      obtain ⟨lb, lo, rfl, hlb, hlc⟩ := hw1.cells (by omega)
      have hway := way_at hlc hlb hp
      have hc0 : wr.cell? ⟨ob, oo + k, none⟩ = some (.int .i64 (j : Int)) := by
        have : wr.cell? ⟨ob, oo + (k * 1 + 0), none⟩ = _ := hci
        rw [show oo + (k * 1 + 0) = oo + k by omega] at this
        exact this
      have hjn : (j : Int) < (nl : Int) := hi0.2
      have HWay := hid hway
      have okp := HOw.out p (List.mem_of_getElem? hp)
      have hsy := SlA.of_own Pc.enc_length hnow.row
      have HSy := hid hsy
      have hbda : BdA wr nb wi hi A ys.length c' := ⟨hnow.now.lt, hnow.now.c0, hnow.now.c1, hnow.now.c2⟩
      have HBda := hid hbda
      have HVw := hid (okO_LS nb lb (lo + j * 6) wi hi (by omega) A c' ys p okp wr hbda hsy hway)
      have hnly : A = none → c' = 0 := fun e => by have := hnow.row; subst e; exact own_nil_cap this
      have HNly := hid hnly
      have hl200 := (bd_in hbd).2.2
      have HDr := hid hdr
      obtain ⟨v, hv⟩ : ∃ v, wayB wi hi ys p = v := ⟨_, rfl⟩
      rw [hv] at HVw
      have HV := hid hv
      clear hnow hbd hok hgr ho1 hw1 hoc hlc hci ek hp hway hsy hbda hnly hdr okp hv hi0
      go_wp2_with fail
      refine HVw.out.mono ?_
      rintro e w4 ⟨rfl, hb4⟩
      have HNow4 := hid (HNow.out.below hb4)
      have HB4 := hid hb4
      clear hb4
      cases v with
      | false =>
        have HGG := hid (show G = ((0, 0, []), 1) by
          rw [← HGr.out, HDr.out, all_step, if_neg (by rw [HV.out]; decide)])
        obtain ⟨-, r0, r1, r2, rz⟩ := HNow4.out.res
        have z0 := rz 0
        have z1 := rz 1
        have z2 := rz 2
        clear rz
        go_wp2_with fail
        refine bodyPost_ret (v := .tuple #[.agg #[.int .i8 0, .int .i8 0, .slice none 0 0], .int .i64 1]) (by simp [results, Try.results39, go_sem, r0, r1, r2]) rfl ?_
        rw [HGG.out]
        exact ⟨none, 0, rfl, below_set3 HNow4.out.bel HNow4.out.rl, World.ownsRow_nil _ _ _ _⟩
      | true =>
        have HLy := hid (show Calls Try.prog 31 #[.pointer (some ⟨nb, 0, none⟩), .pointer (some ⟨lb, lo + j * 6, none⟩)] w4 (ResK w4 (lineG wi hi ys p)) from by
          obtain ⟨m, rfl⟩ : ∃ m : Nat, wi = (m : Int) := ⟨wi.toNat, by omega⟩
          obtain ⟨n, rfl⟩ : ∃ n : Nat, hi = (n : Int) := ⟨hi.toNat, by omega⟩
          exact layO_LS nb lb (lo + j * 6) m n (by omega) (by omega) A c' ys p w4 (by omega) (HBda.out.below HB4.out HBda.out.lt) (HSy.out.below HB4.out) HNly.out (HWay.out.below HB4.out) HV.out)
        have HLb := hid (fun h0 => lay_bd HBd.out HV.out h0)
        have HSt := hid (show G = if (lineG wi hi ys p).2 = 0 then allG wi hi (lineG wi hi ys p).1.2.2 (ms.drop (k + 1)) else ((0, 0, []), (lineG wi hi ys p).2) by
          rw [← HGr.out, HDr.out, all_step, if_pos HV.out])
        generalize lineG wi hi ys p = LG at *
        go_wp2_with fail
        refine HLy.out.mono ?_
        rintro e w5 ⟨A5, c5, rfl, hb5, own5⟩
        have HNow5 := hid (HNow4.out.below hb5)
        have hz5 : w4.heap.size ≤ w5.heap.size := hb5.size
        have hne5 : ∀ q, (Value.slice A5 LG.1.2.2.length c5).ownBlock = some q → q ≠ nb ∧ q ≠ rb := fun q hq => by
          have h1 := (own5.lt q hq).1
          have h2 := HNow4.out.now.lt
          have h3 := HNow4.out.res.lt
          exact ⟨by omega, by omega⟩
        obtain ⟨W6, hW6⟩ : ∃ W, W = w5.alloc (.cells #[.int .i8 LG.1.1, .int .i8 LG.1.2.1, .slice A5 LG.1.2.2.length c5] 32) := ⟨_, rfl⟩
        have hb6 : Below w5.heap.size w5 W6 := by rw [hW6]; exact (Below.refl _ _).alloc (Nat.le_refl _) _
        have hq6 : BoQ W6 w5.heap.size LG.1.1 LG.1.2.1 A5 LG.1.2.2.length c5 := by rw [hW6]; exact boq_new _ _ _ _ _ _ _
        have HNow6 := hid (HNow5.out.below hb6)
        have HQ6 := hid hq6
        have HO6 := hid (own_low (own_step own5 hb6) HNow4.out.bel.size)
        have HNe := hid hne5
        obtain ⟨d, hd2⟩ : ∃ d, LG.2 = d := ⟨_, rfl⟩
        rw [hd2] at HLb HSt
        (try rw [hd2])
        obtain ⟨-, n0, n1, n2, nz⟩ := HNow6.out.now
        have nz0 := nz 0
        have nz1 := nz 1
        have nz2 := nz 2
        obtain ⟨-, r0, r1, r2, rz⟩ := HNow6.out.res
        have z0 := rz 0
        have z1 := rz 1
        have z2 := rz 2
        obtain ⟨q, hq⟩ : ∃ q, w5.heap.size = q := ⟨_, rfl⟩
        have hqn : q ≠ nb := by have := HNow5.out.now.lt; omega
        rw [hq] at HQ6
        obtain ⟨-, q0, q1, q2, -⟩ := HQ6.out
        clear hb5 own5 hb6 hq6 hne5 hd2 nz rz hz5
        go_upto_region 9 with fail
        rw [← hW6]
        (try rw [hq])
        clear hW6 hq
        by_cases h0 : d = 0
        · subst h0
          obtain ⟨hbd2, hwi2, hhi2, hok2⟩ := HLb.out rfl
          have HSt2 := hid (show allG wi hi LG.1.2.2 (ms.drop (k + 1)) = G by rw [HSt.out, if_pos rfl])
          rw [hwi2] at q0
          rw [hhi2] at q1
          obtain ⟨zs, hzs⟩ : ∃ zs, LG.1.2.2 = zs := ⟨_, rfl⟩
          rw [hzs] at hbd2 hok2 HSt2 HO6 HNe q2
          have HOk2 := hid (show ∀ x ∈ zs, x.Ok from fun x hx => (hok2 x hx).elim (fun h => HOkY.out x h) (fun h => h))
          have HBd2 := hid hbd2
          clear hbd2 hok2 hwi2 hhi2 hzs HSt HLb
          go_wp2_with fail
          exact ⟨⟨k + 1, zs, A5, c5, by omega, by go_num, HNow6.out.store rfl HO6.out HNe.out, HBd2.out, HOk2.out, HSt2.out⟩, by simp [intOf]; omega⟩
        · have hne : (d != 0) = true := by simpa using h0
          have HGG := hid (show G = ((0, 0, []), d) by rw [HSt.out, if_neg h0])
          clear h0
          go_wp2_with fail
          refine bodyPost_ret (v := .tuple #[.agg #[.int .i8 0, .int .i8 0, .slice none 0 0], .int .i64 d]) (by simp [results, Try.results39, go_sem, r0, r1, r2]) rfl ?_
          rw [HGG.out]
          exact ⟨none, 0, rfl, below_set3 HNow6.out.bel HNow6.out.rl, World.ownsRow_nil _ _ _ _⟩
    · obtain rfl : k = no := by omega
      have hd : decide ((k : Int) < (k : Int)) = false := by rw [decide_eq_false_iff_not]; omega
      have HGG := hid (show G = ((wi, hi, ys), 0) by rw [← HGr.out, HMl.out]; rfl)
      obtain ⟨-, r0, r1, r2, rz⟩ := hnow.res
      have z0 := rz 0
      have z1 := rz 1
      have z2 := rz 2
      obtain ⟨-, n0, n1, n2, -⟩ := hnow.now
      have hrn := hnow.rn
      clear rz hnow hbd hok hgr hw1 ho1 hlt
      go_wp2_with fail
      refine bodyPost_ret (v := .tuple #[.agg #[.int .i8 wi, .int .i8 hi, .slice A ys.length c'], .int .i64 0]) (by simp [results, Try.results39, go_sem, r0, r1, r2]) rfl ?_
      rw [HGG.out]
      refine ⟨A, c', rfl, below_set3 HNow.out.bel HNow.out.rl, ?_⟩
      exact own_setE (own_setE (own_setE HNow.out.row (fun k hk => (HNow.out.ne k hk).2) _) (fun k hk => (HNow.out.ne k hk).2) _) (fun k hk => (HNow.out.ne k hk).2) _
/-- A function hands back a board, a number and a code. -/
def ResK3 (w : World) (R : (Int × Int × List Pc) × Int × Int) (e : Ending) (w' : World) : Prop :=
  ∃ A c, e = .returned (.tuple #[.agg #[.int .i8 R.1.1, .int .i8 R.1.2.1, .slice A R.1.2.2.length c], .int .i64 R.2.1, .int .i64 R.2.2]) ∧ Below w.heap.size w w' ∧ w'.ownsRow w.heap.size 98 5 (.slice A R.1.2.2.length c) R.1.2.2.length (R.1.2.2.flatMap Pc.enc)
def all3G (wi hi : Int) (xs : List Pc) (ws : List Wy) : (Int × Int × List Pc) × Int × Int :=
  if (allG wi hi xs ws).2 = 0 then ((allG wi hi xs ws).1, ((allG wi hi xs ws).1.2.2.length : Int) - xs.length, 0) else ((0, 0, []), 0, (allG wi hi xs ws).2)
theorem now_mk {w W wx : World} {rb q : Nat} {wi hi : Int} {xs : List Pc} {A : Option Addr} {c : Nat} (h2 : Below w.heap.size w W) (hx : Below W.heap.size W wx) (hq : BoQ wx q wi hi A xs.length c) (hr : BoQ W rb 0 0 none 0 0) (hrow : wx.ownsRow W.heap.size 98 5 (.slice A xs.length c) xs.length (xs.flatMap Pc.enc)) (hne : ∀ k, (Value.slice A xs.length c).ownBlock = some k → k ≠ q) (hql : W.heap.size ≤ q) (hrb : w.heap.size ≤ rb) : NowB w wx rb q wi hi xs A c :=
  ⟨below_of h2 h2.size hx, hq, hr.below hx, own_low hrow h2.size, fun k hk => ⟨hne k hk, by have := (hrow.lt k hk).1; have := hr.lt; omega⟩, by have := hr.lt; omega, Nat.le_trans h2.size hql, hrb⟩
theorem ne_a {w W : World} {e : TypeId} {v : Value} {n size q m c : Nat} {xs : List Value} {wi hi : Int} {A : Option Addr} (h : w.ownsRow W.heap.size e size v n xs) (hq : BoQ W q wi hi A m c) : ∀ k, v.ownBlock = some k → k ≠ q := fun k hk => by
  have h1 := (h.lt k hk).1
  have h2 := hq.lt
  omega
theorem ne_b {w : World} {b : Nat} {e : TypeId} {v : Value} {n size : Nat} {xs : List Value} (h : w.ownsRow b e size v n xs) : ∀ k, v.ownBlock = some k → k ≠ w.heap.size := fun k hk => by
  have h1 := (h.lt k hk).2
  omega
set_option maxRecDepth 100000 in
set_option maxHeartbeats 16000000 in
theorem layAll_I (wi hi : Int) (wl : -128 ≤ wi) (wu : wi ≤ 127) (hl : -128 ≤ hi) (hu : hi ≤ 127) (a : Option Addr) (c : Nat) (xs : List Pc) (hs : xs.length ≤ 1048576) (hnc : a = none → c = 0) (ok : ∀ p ∈ xs, p.Ok) (hbo : bdOk wi hi xs = true) (al : Option Addr) (cl nl : Nat) (ws : List Wy) (hnl : nl = ws.length) (hnl2 : nl ≤ 1048576) (okw : ∀ p ∈ ws, p.Ok)
    (w : World) (h : SlA Pc.enc 5 w a xs) (hw : SlA Wy.enc 6 w al ws) :
    Calls Try.prog 42 #[.agg #[.int .i8 wi, .int .i8 hi, .slice a xs.length c], .slice al nl cl] w (ResK3 w (all3G wi hi xs ws)) := by
  obtain ⟨hwi, hhi, hx200⟩ := bd_in hbo
  obtain ⟨W1, hW1⟩ : ∃ W, W = w.alloc (.cells #[.int .i8 wi, .int .i8 hi, .slice a xs.length c] 32) := ⟨_, rfl⟩
  have B1 : Below w.heap.size w W1 := by rw [hW1]; exact (Below.refl _ _).alloc (Nat.le_refl _) _
  have bd1 : BdA W1 w.heap.size wi hi a xs.length c := by rw [hW1]; exact bd_box _ _ _ _ _ _ _
  obtain ⟨W2, hW2⟩ : ∃ W, W = W1.alloc (.cells #[.int .i8 0, .int .i8 0, .slice none 0 0] 32) := ⟨_, rfl⟩
  have B2 : Below W1.heap.size W1 W2 := by rw [hW2]; exact (Below.refl _ _).alloc (Nat.le_refl _) _
  have HR := hid (show BoQ W2 W1.heap.size 0 0 none 0 0 by rw [hW2]; exact boq_new _ _ _ _ _ _ _)
  have hs1 : W1.heap.size = w.heap.size + 1 := by rw [hW1]; simp
  have hb2 := below_of B1 B1.size B2
  have HB2 := hid hb2
  have hbd2 := bd1.below B2 bd1.lt
  have HK := hid (fun W (hW : Below W2.heap.size W2 W) => (⟨hbd2.below hW hbd2.lt, (h.below hb2).below hW, (hw.below hb2).below hW⟩ : BdA W w.heap.size wi hi a xs.length c ∧ SlA Pc.enc 5 W a xs ∧ SlA Wy.enc 6 W al ws))
  rw [hs1] at HR
  rw [hW1] at hW2
  have HNl := hid hnl
  have HOw := hid okw
  have HBo := hid hbo
  have HOk := hid ok
  obtain ⟨g0, g1, g2⟩ : W2.cell? ⟨w.heap.size, 0, none⟩ = some (.int .i8 wi) ∧ W2.cell? ⟨w.heap.size, 1, none⟩ = some (.int .i8 hi) ∧ W2.cell? ⟨w.heap.size, 2, none⟩ = some (.slice a xs.length c) := ⟨hbd2.c0, hbd2.c1, hbd2.c2⟩
  have HMs := hid (fun (k : Nat) (hk : k < nl) => (show ∃ p, ws[k]? = some p ∧ ws.drop k = p :: ws.drop (k + 1) from ⟨ws[k]'(by omega), List.getElem?_eq_getElem _, List.drop_eq_getElem_cons _⟩))
  have HMl := hid (show ws.drop nl = [] from List.drop_eq_nil_of_le (by omega))
  obtain ⟨G, hG⟩ : ∃ G, allG wi hi xs ws = G := ⟨_, rfl⟩
  have HG := hid hG
  have HG3 := hid (show all3G wi hi xs ws = (if G.2 = 0 then (G.1, (G.1.2.2.length : Int) - xs.length, 0) else ((0, 0, []), 0, G.2) : (Int × Int × List Pc) × Int × Int) by unfold all3G; rw [hG])
  generalize all3G wi hi xs ws = R3 at *
  obtain ⟨bb, hbb⟩ : ∃ bb, w.heap.size = bb := ⟨_, rfl⟩
  obtain ⟨rb, hrb⟩ : ∃ rb, bb + 1 = rb := ⟨_, rfl⟩
  have HBb := hid hbb
  have HRb := hid (show w.heap.size ≤ rb by omega)
  rw [hbb] at HR HK g0 g1 g2
  rw [hrb] at HR
  have HWi := hid (fun W (hW : Below W2.heap.size W2 W) A2 n2 c2 => with_I bb wi hi a xs.length c A2 n2 c2 W (HK.out W hW).1)
  have HCl := hid (fun W (hW : Below W2.heap.size W2 W) => clone_Pc_L a c xs W (HK.out W hW).2.1 hnc hs)
  have HSz := hid (show rb < W2.heap.size from HR.out.lt)
  clear h hw hnl okw hbo ok hG B1 B2 bd1 hs1 hb2 hbd2 hW1
  go_enter Try.func42, Try.ntmps42
  go_upto_region 1 with fail
  rw [← hW2]
  (try rw [hbb])
  (try rw [hrb])
  clear hW2 hbb hrb
  have hb0 : Below W2.heap.size W2 W2.drew := (Below.refl _ _).drew
  go_cut [7, 8] from 13 to 19 (fun s7 s8 wx => ∃ (nb : Nat) (A : Option Addr) (c' : Nat), s7 = .pointer (some ⟨nb, 0, none⟩) ∧ s8 = .int .i64 (xs.length : Int) ∧ NowB w wx rb nb wi hi xs A c' ∧ Below W2.heap.size W2 wx ∧ W2.heap.size ≤ nb)
  case first =>
    have NN : W2.drew.cell? ⟨bb, 2, none⟩ = some (.slice a xs.length c) := g2
    have XV := hb0
    have XVd : Below W2.heap.size W2 (W2.alloc (.cells #[.int .i8 0, .int .i8 0, .slice none 0 0] 32)).drew := (((Below.refl W2.heap.size W2).alloc (Nat.le_refl _) (.cells #[.int .i8 0, .int .i8 0, .slice none 0 0] 32)).drew)
    have QB := boq_new W2.drew 0 0 none 0 0 32
    have hid1 := hid (show BoQ (W2.alloc (.cells #[.int .i8 0, .int .i8 0, .slice none 0 0] 32)).drew W2.heap.size 0 0 none 0 0 from boq_new W2.drew 0 0 none 0 0 32)
    have QL : W2.heap.size ≤ W2.heap.size := Nat.le_refl _
    go_region_held3 (fun w' => w'.cell? ⟨bb, 2, none⟩ = some (.slice a xs.length c))
      (first | with_reducible assumption | with_reducible exact NN | with_reducible exact cell_on (XV.alloc XV.size _) g2 | with_reducible exact cell_on XVd g2 | with_reducible exact cell_on XC g2 | with_reducible exact cell_on (XC.alloc XC.size _) g2 | with_reducible exact cell_on XBf g2 | with_reducible exact cell_on (below_set3 XBf QL) g2 | fail)
      (first
        | (go_at_call 81; refine (HCl.out _ ?hW).mono ?_; (case hW => first | with_reducible exact XV | with_reducible exact XV.alloc XV.size _ | with_reducible exact XVd); rintro e w5 ⟨A5, c5, rfl, b5, own5⟩; (first | with_reducible (have XC := below_of XV XV.size b5; have XS := XV.size) | with_reducible (have XC := below_of (XV.alloc XV.size (.cells #[.int .i8 0, .int .i8 0, .slice none 0 0] 32)) (XV.alloc XV.size (.cells #[.int .i8 0, .int .i8 0, .slice none 0 0] 32)).size b5; have XS := (XV.alloc XV.size (.cells #[.int .i8 0, .int .i8 0, .slice none 0 0] 32)).size) | with_reducible (have XC := below_of XVd XVd.size b5; have XS := XVd.size)); have QO := own_low own5 XS; (first | with_reducible (have QN := ne_a own5 QB; have QB := QB.below b5) | with_reducible (have QN := ne_a own5 hid1.out; have QB := hid1.out.below b5) | (have QB := boq_new w5 0 0 none 0 0 32; have QL := XC.size; have QN := ne_b own5)); have XV := XC)
        | (go_at_call 75; refine (HWi.out _ ?hW _ _ _).mono ?_; (case hW => first | with_reducible exact XV | with_reducible exact XV.alloc XV.size _); rintro e w6 ⟨rfl, b6⟩; (first | with_reducible (have XC := below_of XV XV.size b6; have XS := XV.size) | with_reducible (have XC := below_of (XV.alloc XV.size (.cells #[.int .i8 0, .int .i8 0, .slice none 0 0] 32)) (XV.alloc XV.size (.cells #[.int .i8 0, .int .i8 0, .slice none 0 0] 32)).size b6; have XS := (XV.alloc XV.size (.cells #[.int .i8 0, .int .i8 0, .slice none 0 0] 32)).size) | with_reducible (have XC := below_of XVd XVd.size b6; have XS := XVd.size)); (first | with_reducible have QO := own_step QO b6 | with_reducible have QO := own_step (own_step QO ((Below.refl _ _).alloc (Nat.le_refl _) (.cells #[.int .i8 0, .int .i8 0, .slice none 0 0] 32))) b6); (first | with_reducible (have QB := QB.below b6; have XBf := XC; have QOf := QO) | (have QB := boq_new w6 0 0 none 0 0 32; have QL := XC.size; have QN := ne_b QO; have XBf := XC.alloc XC.size (.cells #[.int .i8 0, .int .i8 0, .slice none 0 0] 32); have QOf := own_step QO ((Below.refl _ _).alloc (Nat.le_refl _) (.cells #[.int .i8 0, .int .i8 0, .slice none 0 0] 32)))); obtain ⟨-, r0, r1, r2, rz⟩ := id QB; have z0 := rz 0; have z1 := rz 1; have z2 := rz 2))
    all_goals (
      go_wp2_with fail
      go_meet
      first
        | exact ⟨_, _, _, rfl, rfl, now_mk HB2.out (below_set3 XBf QL) QB.store3 HR.out (own_setE (own_setE (own_setE QOf QN _) QN _) QN _) QN QL HRb.out, below_set3 XBf QL, QL⟩
        | exact ⟨_, _, _, rfl, rfl, now_mk HB2.out (XC.alloc XC.size _) (boq_new _ _ _ _ _ _ _) HR.out (own_step QO ((Below.refl _ _).alloc (Nat.le_refl _) _)) QN QL HRb.out, XC.alloc XC.size _, QL⟩
        | fail)
  case rest =>
    obtain ⟨nb, A0, c0, rfl, rfl, hnow0, hbw0, hnb0⟩ := hcut
    have HN0 := hid hnow0
    have HW0 := hid hbw0
    have HNb0 := hid hnb0
    obtain ⟨W3, hW3⟩ : ∃ W, W = wc := ⟨_, rfl⟩
    subst hW3
    clear hnow0 hbw0 hnb0 g0 g1 g2 hb0
    go_wp2_with fail
    go_loopw [22] (fun iv wr => ∃ (k : Nat) (ys : List Pc) (A : Option Addr) (c' : Nat), k ≤ nl ∧ iv = .int .i64 k ∧ NowB w wr rb nb wi hi ys A c' ∧ Below W2.heap.size W2 wr ∧ bdOk wi hi ys = true ∧ (∀ q ∈ ys, q.Ok) ∧ allG wi hi ys (ws.drop k) = G) (fun iv _ => nl - (intOf iv).toNat)
    case atStart => exact ⟨0, xs, A0, c0, Nat.zero_le _, rfl, HN0.out, HW0.out, HBo.out, HOk.out, by rw [List.drop_zero]; exact HG.out⟩
    case round =>
      obtain ⟨k, ys, A, c', hk, rfl, hnow, hbel, hbd, hok, hgr⟩ := hrel
      have HNow := hid hnow
      have HBel := hid hbel
      have HBd := hid hbd
      have HOkY := hid hok
      have HGr := hid hgr
      obtain ⟨-, -, hw1⟩ := HK.out wr hbel
      by_cases hlt : k < nl
      · have hd : decide ((k : Int) < (nl : Int)) = true := by rw [decide_eq_true_iff]; omega
        have hki : (k : Int) < (nl : Int) := by omega
        have wk : IntKind.i64.wrap ((k : Int) + 1) = (k : Int) + 1 := IntWalk.i64_in _ (by omega)
        obtain ⟨p, hp, hdr⟩ := HMs.out k hlt
        obtain ⟨lb, lo, rfl, hlb, hlc⟩ := hw1.cells (by have := (List.getElem?_eq_some_iff.1 hp).1; omega)
        have okp := HOw.out p (List.mem_of_getElem? hp)
        have f0 : wr.cell? ⟨lb, lo + k * 6, none⟩ = some (.int .i8 p.fx) := hlc k _ hp 0 _ rfl
        have f1 : wr.cell? ⟨lb, lo + k * 6 + 1, none⟩ = some (.int .i8 p.fy) := hlc k _ hp 1 _ rfl
        have f2 : wr.cell? ⟨lb, lo + k * 6 + 2, none⟩ = some (.int .i8 p.sd) := hlc k _ hp 2 _ rfl
        have f3 : wr.cell? ⟨lb, lo + k * 6 + 3, none⟩ = some (.int .i8 p.tx) := hlc k _ hp 3 _ rfl
        have f4 : wr.cell? ⟨lb, lo + k * 6 + 4, none⟩ = some (.int .i8 p.ty) := hlc k _ hp 4 _ rfl
        have f5 : wr.cell? ⟨lb, lo + k * 6 + 5, none⟩ = some (.int .i8 p.ou) := hlc k _ hp 5 _ rfl
        have hsy := SlA.of_own Pc.enc_length hnow.row
        have hnly : A = none → c' = 0 := fun e => by have := hnow.row; subst e; exact own_nil_cap this
        have hl200 := (bd_in hbd).2.2
        obtain ⟨V, hV⟩ : ∃ V, V = wr.alloc (.cells #[.int .i8 p.fx, .int .i8 p.fy, .int .i8 p.sd, .int .i8 p.tx, .int .i8 p.ty, .int .i8 p.ou] 38) := ⟨_, rfl⟩
        have hbV : Below wr.heap.size wr V := by rw [hV]; exact (Below.refl _ _).alloc (Nat.le_refl _) _
        have v0 : V.cell? ⟨wr.heap.size, 0, none⟩ = some (.int .i8 p.fx) := by rw [hV]; simp [go_sem]
        have v1 : V.cell? ⟨wr.heap.size, 1, none⟩ = some (.int .i8 p.fy) := by rw [hV]; simp [go_sem]
        have v2 : V.cell? ⟨wr.heap.size, 2, none⟩ = some (.int .i8 p.sd) := by rw [hV]; simp [go_sem]
        have v3 : V.cell? ⟨wr.heap.size, 3, none⟩ = some (.int .i8 p.tx) := by rw [hV]; simp [go_sem]
        have v4 : V.cell? ⟨wr.heap.size, 4, none⟩ = some (.int .i8 p.ty) := by rw [hV]; simp [go_sem]
        have v5 : V.cell? ⟨wr.heap.size, 5, none⟩ = some (.int .i8 p.ou) := by rw [hV]; simp [go_sem]
        have HNow4 := hid (HNow.out.below hbV)
        have HBel4 := hid (below_of hbel hbel.size hbV)
        obtain ⟨-, n0, n1, n2, -⟩ := HNow4.out.now
        have HLy := hid (LayLine_I V wi hi wl wu hl hu A c' ys (hsy.below hbV) hnly hok (by omega) p okp)
        unfold Wy.enc at HLy
        have HLb := hid (fun h0 => line_bd (p := p) hbd h0)
        have HSt := hid (show G = if (LayLineG wi hi ys p).2 = 0 then allG wi hi (LayLineG wi hi ys p).1.2.2 (ws.drop (k + 1)) else ((0, 0, []), (LayLineG wi hi ys p).2) by
          rw [← hgr, hdr, all_line hbd])
        generalize LayLineG wi hi ys p = LG at *
        clear hnow hbel hbd hok hgr hw1 hlc hp hdr okp hsy hnly hbV
        go_upto_region 5 with fail
        rw [← hV]
        obtain ⟨vb, hvb⟩ : ∃ vb, wr.heap.size = vb := ⟨_, rfl⟩
        rw [hvb] at v0 v1 v2 v3 v4 v5
        (try rw [hvb])
        clear hV hvb f0 f1 f2 f3 f4 f5
        go_wp2_with fail
        refine HLy.out.mono ?_
        rintro e w5 ⟨A5, c5, rfl, hb5, own5⟩
        have HNow5 := hid (HNow4.out.below hb5)
        have HBel5 := hid (below_of HBel4.out HBel4.out.size hb5)
        have hne5 : ∀ q, (Value.slice A5 LG.1.2.2.length c5).ownBlock = some q → q ≠ nb ∧ q ≠ rb := fun q hq => by
          have h1 := (own5.lt q hq).1
          have h2 := HNow4.out.now.lt
          have h3 := HNow4.out.res.lt
          exact ⟨by omega, by omega⟩
        obtain ⟨W6, hW6⟩ : ∃ W, W = w5.alloc (.cells #[.int .i8 LG.1.1, .int .i8 LG.1.2.1, .slice A5 LG.1.2.2.length c5] 32) := ⟨_, rfl⟩
        have hb6 : Below w5.heap.size w5 W6 := by rw [hW6]; exact (Below.refl _ _).alloc (Nat.le_refl _) _
        have hq6 : BoQ W6 w5.heap.size LG.1.1 LG.1.2.1 A5 LG.1.2.2.length c5 := by rw [hW6]; exact boq_new _ _ _ _ _ _ _
        have HNow6 := hid (HNow5.out.below hb6)
        have HBel6 := hid (below_of HBel5.out HBel5.out.size hb6)
        have HQ6 := hid hq6
        have HO6 := hid (own_low (own_step own5 hb6) HNow4.out.bel.size)
        have HNe := hid hne5
        obtain ⟨d, hd2⟩ : ∃ d, LG.2 = d := ⟨_, rfl⟩
        rw [hd2] at HLb HSt
        (try rw [hd2])
        obtain ⟨-, m0, m1, m2, mz⟩ := HNow6.out.now
        have nz0 := mz 0
        have nz1 := mz 1
        have nz2 := mz 2
        obtain ⟨-, r0, r1, r2, rz⟩ := HNow6.out.res
        have z0 := rz 0
        have z1 := rz 1
        have z2 := rz 2
        obtain ⟨q, hq⟩ : ∃ q, w5.heap.size = q := ⟨_, rfl⟩
        have hqn : q ≠ nb := by have := HNow5.out.now.lt; omega
        rw [hq] at HQ6
        obtain ⟨-, q0, q1, q2, -⟩ := HQ6.out
        have HNb := hid (show W2.heap.size ≤ nb from HNb0.out)
        clear hb5 own5 hb6 hq6 hne5 hd2 mz rz n0 n1 n2 v0 v1 v2 v3 v4 v5
        go_upto_region 6 with fail
        rw [← hW6]
        (try rw [hq])
        clear hW6 hq
        by_cases h0 : d = 0
        · subst h0
          obtain ⟨hbd2, hwi2, hhi2, hok2⟩ := HLb.out rfl
          have HSt2 := hid (show allG wi hi LG.1.2.2 (ws.drop (k + 1)) = G by rw [HSt.out, if_pos rfl])
          rw [hwi2] at q0
          rw [hhi2] at q1
          obtain ⟨zs, hzs⟩ : ∃ zs, LG.1.2.2 = zs := ⟨_, rfl⟩
          rw [hzs] at hbd2 hok2 HSt2 HO6 HNe q2
          have HOk2 := hid (show ∀ x ∈ zs, x.Ok from fun x hx => (hok2 x hx).elim (fun h => HOkY.out x h) (fun h => h))
          have HBd2 := hid hbd2
          clear hbd2 hok2 hwi2 hhi2 hzs HSt HLb
          go_wp2_with fail
          exact ⟨⟨k + 1, zs, A5, c5, by omega, by go_num, HNow6.out.store rfl HO6.out HNe.out, below_set3 HBel6.out HNb.out, HBd2.out, HOk2.out, HSt2.out⟩, by simp [intOf]; omega⟩
        · have hne : (d != 0) = true := by simpa using h0
          have HGG := hid (show R3 = ((0, 0, []), 0, d) by
            have h1 : G = ((0, 0, []), d) := by rw [HSt.out, if_neg h0]
            rw [HG3.out, h1, if_neg h0])
          clear h0
          go_wp2_with fail
          refine bodyPost_ret (v := .tuple #[.agg #[.int .i8 0, .int .i8 0, .slice none 0 0], .int .i64 0, .int .i64 d]) (by simp [results, Try.results42, go_sem, r0, r1, r2]) rfl ?_
          rw [HGG.out]
          exact ⟨none, 0, rfl, below_set3 HNow6.out.bel HNow6.out.rl, World.ownsRow_nil _ _ _ _⟩
      · obtain rfl : k = nl := by omega
        have hd : decide ((k : Int) < (k : Int)) = false := by rw [decide_eq_false_iff_not]; omega
        have HGG := hid (show R3 = ((wi, hi, ys), (ys.length : Int) - xs.length, 0) by
          have h1 : G = ((wi, hi, ys), 0) := by rw [← HGr.out, HMl.out]; rfl
          rw [HG3.out, h1]; rfl)
        obtain ⟨-, r0, r1, r2, rz⟩ := hnow.res
        have z0 := rz 0
        have z1 := rz 1
        have z2 := rz 2
        obtain ⟨-, n0, n1, n2, -⟩ := hnow.now
        have hrn := hnow.rn
        have hl200 := (bd_in hbd).2.2
        have wsb : IntKind.i64.wrap ((ys.length : Int) - (xs.length : Int)) = (ys.length : Int) - (xs.length : Int) := IntWalk.i64_in _ (by omega)
        have r0' : wr.drew.cell? ⟨rb, 0, none⟩ = some (.int .i8 0) := r0
        have r1' : wr.drew.cell? ⟨rb, 1, none⟩ = some (.int .i8 0) := r1
        have r2' : wr.drew.cell? ⟨rb, 2, none⟩ = some (.slice none 0 0) := r2
        clear rz hnow hbel hbd hok hgr hw1 hlt
        go_wp2_with fail
        go_region
        go_wp2_with fail
        refine bodyPost_ret (v := .tuple #[.agg #[.int .i8 wi, .int .i8 hi, .slice A ys.length c'], .int .i64 ((ys.length : Int) - xs.length), .int .i64 0]) (by simp [results, Try.results42, go_sem, r0, r1, r2]) rfl ?_
        rw [HGG.out]
        refine ⟨A, c', rfl, ?_, ?_⟩
        · first | exact (below_set3 HNow.out.bel HNow.out.rl).drew | exact below_set3 HNow.out.bel.drew HNow.out.rl
        · first | exact (own_setE (own_setE (own_setE HNow.out.row (fun k hk => (HNow.out.ne k hk).2) _) (fun k hk => (HNow.out.ne k hk).2) _) (fun k hk => (HNow.out.ne k hk).2) _).drew | exact own_setE (own_setE (own_setE HNow.out.row.drew (fun k hk => (HNow.out.ne k hk).2) _) (fun k hk => (HNow.out.ne k hk).2) _) (fun k hk => (HNow.out.ne k hk).2) _
theorem cnt_ways (ws : List Wy) : (cntZ ws.length).map (fun i => ws.getD i.toNat ⟨0, 0, 0, 0, 0, 0⟩) = ws := by
  unfold cntZ
  rw [List.map_map]
  refine List.ext_getElem? fun i => ?_
  rw [List.getElem?_map]
  rcases Nat.lt_or_ge i ws.length with h | h
  · rw [List.getElem?_range h, List.getElem?_eq_getElem h]
    show some (ws.getD ((i : Int)).toNat _) = _
    rw [Int.toNat_natCast, List.getD_eq_getElem?_getD, List.getElem?_eq_getElem h]
    rfl
  · rw [List.getElem?_eq_none (by rw [List.length_range]; exact h), List.getElem?_eq_none h]
    rfl
theorem layAll_eq (wi hi : Int) (xs : List Pc) (ws : List Wy) : LayAllG wi hi xs ws = if bdOk wi hi xs = true then (if ws.length ≤ 12 then all3G wi hi xs ws else ((0, 0, []), 0, 2)) else ((0, 0, []), 0, 1) := rfl
set_option maxRecDepth 100000 in
set_option maxHeartbeats 8000000 in
theorem LayAll_I (w : World) (wi hi : Int) (wl : -128 ≤ wi) (wu : wi ≤ 127) (hl : -128 ≤ hi) (hu : hi ≤ 127) (a : Option Addr) (c : Nat) (xs : List Pc) (h : SlA Pc.enc 5 w a xs) (hnc : a = none → c = 0) (ok : ∀ p ∈ xs, p.Ok) (hs : xs.length ≤ 1048576) (al : Option Addr) (cl : Nat) (ws : List Wy) (hw : SlA Wy.enc 6 w al ws) (hnc2 : al = none → cl = 0) (okw : ∀ p ∈ ws, p.Ok) (hs2 : ws.length ≤ 1048576) :
    Calls Try.prog 18 #[.agg #[.int .i8 wi, .int .i8 hi, .slice a xs.length c], .slice al ws.length cl] w (ResK3 w (LayAllG wi hi xs ws)) := by
  obtain ⟨W1, hW1⟩ : ∃ W, W = w.alloc (.cells #[.int .i8 wi, .int .i8 hi, .slice a xs.length c] 32) := ⟨_, rfl⟩
  have B1 : Below w.heap.size w W1 := by rw [hW1]; exact (Below.refl _ _).alloc (Nat.le_refl _) _
  have bd1 : BdA W1 w.heap.size wi hi a xs.length c := by rw [hW1]; exact bd_box _ _ _ _ _ _ _
  obtain ⟨W2, hW2⟩ : ∃ W, W = W1.alloc (.cells #[.int .i8 0, .int .i8 0, .slice none 0 0] 32) := ⟨_, rfl⟩
  have B2 : Below W1.heap.size W1 W2 := by rw [hW2]; exact (Below.refl _ _).alloc (Nat.le_refl _) _
  have HR := hid (show BoQ W2 W1.heap.size 0 0 none 0 0 by rw [hW2]; exact boq_new _ _ _ _ _ _ _)
  have hs1 : W1.heap.size = w.heap.size + 1 := by rw [hW1]; simp
  have hb2 := below_of B1 B1.size B2
  have HB2 := hid hb2
  have hbd2 := bd1.below B2 bd1.lt
  have HK := hid (fun W (hW : Below W2.heap.size W2 W) => (⟨hbd2.below hW hbd2.lt, (h.below hb2).below hW, (hw.below hb2).below hW⟩ : BdA W w.heap.size wi hi a xs.length c ∧ SlA Pc.enc 5 W a xs ∧ SlA Wy.enc 6 W al ws))
  rw [hs1] at HR
  rw [hW1] at hW2
  have HG := hid (layAll_eq wi hi xs ws)
  have HV := hid (ValidBoard_I wi hi a c xs W2 ⟨wl, wu, hl, hu⟩ (h.below hb2) ok)
  have HLa := hid (fun W (hW : Below W2.heap.size W2 W) (hbo : bdOk wi hi xs = true) => layAll_I wi hi wl wu hl hu a c xs hs hnc ok hbo al cl ws.length ws rfl hs2 okw W (HK.out W hW).2.1 (HK.out W hW).2.2)
  obtain ⟨v, hv⟩ : ∃ v, bdOk wi hi xs = v := ⟨_, rfl⟩
  rw [hv] at HV HG
  have HVv := hid hv
  generalize LayAllG wi hi xs ws = R at *
  generalize all3G wi hi xs ws = R3 at *
  obtain ⟨g0, g1, g2⟩ : W2.cell? ⟨w.heap.size, 0, none⟩ = some (.int .i8 wi) ∧ W2.cell? ⟨w.heap.size, 1, none⟩ = some (.int .i8 hi) ∧ W2.cell? ⟨w.heap.size, 2, none⟩ = some (.slice a xs.length c) := ⟨hbd2.c0, hbd2.c1, hbd2.c2⟩
  obtain ⟨n, hn⟩ : ∃ n, ws.length = n := ⟨_, rfl⟩
  rw [hn] at HG HLa hs2
  rw [hn]
  obtain ⟨bb, hbb⟩ : ∃ bb, w.heap.size = bb := ⟨_, rfl⟩
  obtain ⟨rb, hrb⟩ : ∃ rb, bb + 1 = rb := ⟨_, rfl⟩
  have HRb := hid (show w.heap.size ≤ rb by omega)
  rw [hbb] at HR HK g0 g1 g2
  rw [hrb] at HR
  clear h hw okw ok B1 B2 bd1 hs1 hb2 hbd2 hW1 hv hn
  go_enter Try.func18, Try.ntmps18
  go_upto_region 1 with fail
  rw [← hW2]
  (try rw [hbb])
  (try rw [hrb])
  clear hW2 hbb hrb
  go_wp2_with fail
  refine HV.out.mono ?_
  rintro e w4 ⟨rfl, hb4⟩
  have HR4 := hid (HR.out.below hb4)
  have HC4 := hid hb4
  have HB4 := hid (below_of HB2.out HB2.out.size hb4)
  obtain ⟨-, r0, r1, r2, rz⟩ := HR4.out
  have z0 := rz 0
  have z1 := rz 1
  have z2 := rz 2
  clear rz g0 g1 g2
  cases v with
  | false =>
    have HGG := hid (show R = ((0, 0, []), 0, 1) by rw [HG.out]; rfl)
    clear hb4
    go_wp2_with fail
    refine bodyPost_ret (v := .tuple #[.agg #[.int .i8 0, .int .i8 0, .slice none 0 0], .int .i64 0, .int .i64 1]) (by simp [results, Try.results18, go_sem, r0, r1, r2]) rfl ?_
    rw [HGG.out]
    exact ⟨none, 0, rfl, below_set3 HB4.out HRb.out, World.ownsRow_nil _ _ _ _⟩
  | true =>
    by_cases hl12 : n ≤ 12
    · have hd : decide ((12 : Int) < (n : Int)) = false := by rw [decide_eq_false_iff_not]; omega
      have hd2 : decide (12 < n) = false := by rw [decide_eq_false_iff_not]; omega
      have HGG := hid (show R = R3 by rw [HG.out, if_pos rfl, if_pos hl12])
      have HL4 := hid (HLa.out w4 HC4.out HVv.out)
      rw [← HGG.out] at HL4
      obtain ⟨⟨-, g0, g1, g2⟩, -, -⟩ := HK.out w4 HC4.out
      clear hl12 hb4 r0 r1 r2 z0 z1 z2
      go_wp2_with fail
      refine HL4.out.mono ?_
      rintro e w6 ⟨A9, c9, rfl, hb6, own6⟩
      obtain ⟨-, r0, r1, r2, rz⟩ := HR4.out.below hb6
      have z0 := rz 0
      have z1 := rz 1
      have z2 := rz 2
      have HRl := hid HR4.out.lt
      have HB6 := hid (below_of HB4.out HB4.out.size hb6)
      have HO6 := hid own6
      clear rz hb6 own6
      go_wp2_with fail
      refine bodyPost_ret (v := .tuple #[.agg #[.int .i8 R.1.1, .int .i8 R.1.2.1, .slice A9 R.1.2.2.length c9], .int .i64 R.2.1, .int .i64 R.2.2]) (by simp [results, Try.results18, go_sem, r0, r1, r2]) rfl ⟨A9, c9, rfl, below_set3 HB6.out HRb.out, ?_⟩
      have hnb : ∀ k, (Value.slice A9 R.1.2.2.length c9).ownBlock = some k → k ≠ rb := fun k hk => by
        have h1 := (HO6.out.lt k hk).1
        have h2 := HRl.out
        omega
      exact own_setE (own_setE (own_setE (own_low HO6.out HB4.out.size) hnb _) hnb _) hnb _
    · have hd : decide ((12 : Int) < (n : Int)) = true := by rw [decide_eq_true_iff]; omega
      have hd2 : decide (12 < n) = true := by rw [decide_eq_true_iff]; omega
      have HGG := hid (show R = ((0, 0, []), 0, 2) by rw [HG.out, if_pos rfl, if_neg hl12])
      clear hb4 hl12
      go_wp2_with fail
      refine bodyPost_ret (v := .tuple #[.agg #[.int .i8 0, .int .i8 0, .slice none 0 0], .int .i64 0, .int .i64 2]) (by simp [results, Try.results18, go_sem, r0, r1, r2]) rfl ?_
      rw [HGG.out]
      exact ⟨none, 0, rfl, below_set3 HB4.out HRb.out, World.ownsRow_nil _ _ _ _⟩
set_option maxRecDepth 100000 in
set_option maxHeartbeats 8000000 in
theorem LayAll_S (w : World) (wi hi : Int) (wl : -128 ≤ wi) (wu : wi ≤ 127) (hl : -128 ≤ hi) (hu : hi ≤ 127) (a : Option Addr) (c : Nat) (xs : List Pc) (h : SlA Pc.enc 5 w a xs) (hnc : a = none → c = 0) (ok : ∀ p ∈ xs, p.Ok) (hs : xs.length ≤ 1048576) (al : Option Addr) (cl : Nat) (ws : List Wy) (hw : SlA Wy.enc 6 w al ws) (hnc2 : al = none → cl = 0) (okw : ∀ p ∈ ws, p.Ok) (hs2 : ws.length ≤ 1048576) :
    Calls Try.prog 16 #[.agg #[.int .i8 wi, .int .i8 hi, .slice a xs.length c], .slice al ws.length cl] w (ResK3 w (LayAllG wi hi xs ws)) := by
  obtain ⟨W1, hW1⟩ : ∃ W, W = w.alloc (.cells #[.int .i8 wi, .int .i8 hi, .slice a xs.length c] 32) := ⟨_, rfl⟩
  have B1 : Below w.heap.size w W1 := by rw [hW1]; exact (Below.refl _ _).alloc (Nat.le_refl _) _
  have bd1 : BdA W1 w.heap.size wi hi a xs.length c := by rw [hW1]; exact bd_box _ _ _ _ _ _ _
  obtain ⟨W2, hW2⟩ : ∃ W, W = W1.alloc (.cells #[.int .i8 0, .int .i8 0, .slice none 0 0] 32) := ⟨_, rfl⟩
  have B2 : Below W1.heap.size W1 W2 := by rw [hW2]; exact (Below.refl _ _).alloc (Nat.le_refl _) _
  have HR := hid (show BoQ W2 W1.heap.size 0 0 none 0 0 by rw [hW2]; exact boq_new _ _ _ _ _ _ _)
  have hs1 : W1.heap.size = w.heap.size + 1 := by rw [hW1]; simp
  have hb2 := below_of B1 B1.size B2
  have HB2 := hid hb2
  have hbd2 := bd1.below B2 bd1.lt
  have HK := hid (fun W (hW : Below W2.heap.size W2 W) => (⟨hbd2.below hW hbd2.lt, (h.below hb2).below hW, (hw.below hb2).below hW⟩ : BdA W w.heap.size wi hi a xs.length c ∧ SlA Pc.enc 5 W a xs ∧ SlA Wy.enc 6 W al ws))
  rw [hs1] at HR
  rw [hW1] at hW2
  have HG := hid (layAll_eq wi hi xs ws)
  have HG3 := hid (show all3G wi hi xs ws = (if (allG wi hi xs ws).2 = 0 then ((allG wi hi xs ws).1, ((allG wi hi xs ws).1.2.2.length : Int) - xs.length, 0) else ((0, 0, []), 0, (allG wi hi xs ws).2) : (Int × Int × List Pc) × Int × Int) from rfl)
  have HV := hid (ok_S w.heap.size wi hi a c xs W2 ⟨wl, wu, hl, hu⟩ hbd2 (h.below hb2) ok)
  have HLa := hid (fun W (hW : Below W2.heap.size W2 W) (hbo : bdOk wi hi xs = true) ao co no (hno : no = (cntZ ws.length).length) (hn2 : no ≤ 1048576) (ho : SlA en1 1 W ao (cntZ ws.length)) => all_LS w.heap.size wi hi a c xs hs hnc ok hbo al cl ws.length ws rfl okw ao co no (cntZ ws.length) hno hn2 (fun i hi' => by
    unfold cntZ at hi'
    obtain ⟨k, hk, rfl⟩ := List.mem_map.1 hi'
    rw [List.mem_range] at hk
    omega) W (HK.out W hW).1 (HK.out W hW).2.1 (HK.out W hW).2.2 ho)
  rw [cnt_ways] at HLa
  have HCn := hid (fun W => count_S5 ws.length W hs2)
  have HAl := hid (fun hb => all_len (wi := wi) (hi := hi) ws (xs := xs) hb)
  obtain ⟨v, hv⟩ : ∃ v, bdOk wi hi xs = v := ⟨_, rfl⟩
  rw [hv] at HV HG
  have HVv := hid hv
  generalize LayAllG wi hi xs ws = R at *
  generalize all3G wi hi xs ws = R3 at *
  generalize allG wi hi xs ws = GA at *
  obtain ⟨g0, g1, g2⟩ : W2.cell? ⟨w.heap.size, 0, none⟩ = some (.int .i8 wi) ∧ W2.cell? ⟨w.heap.size, 1, none⟩ = some (.int .i8 hi) ∧ W2.cell? ⟨w.heap.size, 2, none⟩ = some (.slice a xs.length c) := ⟨hbd2.c0, hbd2.c1, hbd2.c2⟩
  have HX2 := hid (fun (hb : bdOk wi hi xs = true) => (bd_in hb).2.2)
  obtain ⟨n, hn⟩ : ∃ n, ws.length = n := ⟨_, rfl⟩
  rw [hn] at HG HLa hs2 HCn
  rw [hn]
  obtain ⟨bb, hbb⟩ : ∃ bb, w.heap.size = bb := ⟨_, rfl⟩
  obtain ⟨rb, hrb⟩ : ∃ rb, bb + 1 = rb := ⟨_, rfl⟩
  have HRb := hid (show w.heap.size ≤ rb by omega)
  rw [hbb] at HR HK g0 g1 g2 HV HLa
  rw [hrb] at HR
  have HBr := hid (show bb < rb by omega)
  clear h hw okw ok B1 B2 bd1 hs1 hb2 hbd2 hW1 hv hn
  go_enter Try.func16, Try.ntmps16
  go_upto_region 1 with fail
  rw [← hW2]
  (try rw [hbb])
  (try rw [hrb])
  clear hW2 hbb hrb
  go_wp2_with fail
  refine HV.out.mono ?_
  rintro e w4 ⟨rfl, hb4⟩
  have HR4 := hid (HR.out.below hb4)
  have HC4 := hid hb4
  have HB4 := hid (below_of HB2.out HB2.out.size hb4)
  obtain ⟨-, r0, r1, r2, rz⟩ := HR4.out
  have z0 := rz 0
  have z1 := rz 1
  have z2 := rz 2
  clear rz g0 g1 g2
  cases v with
  | false =>
    have HGG := hid (show R = ((0, 0, []), 0, 1) by rw [HG.out]; rfl)
    clear hb4
    go_wp2_with fail
    refine bodyPost_ret (v := .tuple #[.agg #[.int .i8 0, .int .i8 0, .slice none 0 0], .int .i64 0, .int .i64 1]) (by simp [results, Try.results16, go_sem, r0, r1, r2]) rfl ?_
    rw [HGG.out]
    exact ⟨none, 0, rfl, below_set3 HB4.out HRb.out, World.ownsRow_nil _ _ _ _⟩
  | true =>
    by_cases hl12 : n ≤ 12
    · have hd : decide ((12 : Int) < (n : Int)) = false := by rw [decide_eq_false_iff_not]; omega
      have hd2 : decide (12 < n) = false := by rw [decide_eq_false_iff_not]; omega
      have HGG := hid (show R = R3 by rw [HG.out, if_pos rfl, if_pos hl12])
      clear hb4 r0 r1 r2 z0 z1 z2 hl12
      go_wp2_with fail
      refine (HCn.out _).mono ?_
      rintro e w5 ⟨A5, c5, rfl, hb5, own5⟩
      have HC5 := hid (below_of HC4.out HC4.out.size hb5)
      have HB5 := hid (below_of HB4.out HB4.out.size hb5)
      have HR5 := hid (HR4.out.below hb5)
      have hcl := cntZ_len n
      have HL5 := hid (HLa.out w5 HC5.out HVv.out A5 c5 n hcl.symm hs2 (SlA.of_own en1_length own5))
      rw [hcl]
      clear hb5 own5 hcl
      go_wp2_with fail
      refine HL5.out.mono ?_
      rintro e w6 ⟨A6, c6, rfl, hb6, own6⟩
      have HC6 := hid (below_of HC5.out HC5.out.size hb6)
      have HB6 := hid (below_of HB5.out HB5.out.size hb6)
      have HR6 := hid (HR5.out.below hb6)
      obtain ⟨W7, hW7⟩ : ∃ W, W = w6.alloc (.cells #[.int .i8 GA.1.1, .int .i8 GA.1.2.1, .slice A6 GA.1.2.2.length c6] 32) := ⟨_, rfl⟩
      have hb7 : Below w6.heap.size w6 W7 := by rw [hW7]; exact (Below.refl _ _).alloc (Nat.le_refl _) _
      have hq7 : BoQ W7 w6.heap.size GA.1.1 GA.1.2.1 A6 GA.1.2.2.length c6 := by rw [hW7]; exact boq_new _ _ _ _ _ _ _
      have HR7 := hid (HR6.out.below hb7)
      have HB7 := hid (below_of HB6.out HB6.out.size hb7)
      have HC7 := hid (below_of HC6.out HC6.out.size hb7)
      have HO7 := hid (own_low (own_step own6 hb7) HB5.out.size)
      have hne : ∀ k, (Value.slice A6 GA.1.2.2.length c6).ownBlock = some k → k ≠ rb := fun k hk => by
        have h1 := (own6.lt k hk).1
        have h2 := HR5.out.lt
        omega
      have HNe := hid hne
      obtain ⟨q, hq⟩ : ∃ q, w6.heap.size = q := ⟨_, rfl⟩
      have hqr : q ≠ rb := by have := HR6.out.lt; omega
      rw [hq] at hq7
      obtain ⟨-, q0, q1, q2, -⟩ := hq7
      obtain ⟨d, hd9⟩ : ∃ d, GA.2 = d := ⟨_, rfl⟩
      have HD := hid hd9
      obtain ⟨-, r0, r1, r2, rz⟩ := HR7.out
      have z0 := rz 0
      have z1 := rz 1
      have z2 := rz 2
      have hal := HAl.out HVv.out
      have hx2 := HX2.out HVv.out
      obtain ⟨⟨-, g0, g1, g2⟩, -, -⟩ := HK.out W7 HC7.out
      (try rw [hd9])
      clear hb6 own6 hb7 hne hd9 rz
      go_upto_region 6 with fail
      rw [← hW7]
      (try rw [hq])
      clear hW7 hq
      by_cases h0 : d = 0
      · subst h0
        have HG9 := hid (show R = (GA.1, (GA.1.2.2.length : Int) - xs.length, 0) by rw [HGG.out, HG3.out, if_pos HD.out])
        obtain ⟨⟨x1, x2, zs⟩, hz⟩ : ∃ z, GA.1 = z := ⟨_, rfl⟩
        rw [hz] at HG9 HO7 HNe q0 q1 q2 hal
        dsimp only at HG9 HO7 HNe q0 q1 q2 hal
        have wsb : IntKind.i64.wrap ((zs.length : Int) - (xs.length : Int)) = (zs.length : Int) - (xs.length : Int) := IntWalk.i64_in _ (by omega)
        have r0' : W7.drew.cell? ⟨rb, 0, none⟩ = some (.int .i8 0) := r0
        have r1' : W7.drew.cell? ⟨rb, 1, none⟩ = some (.int .i8 0) := r1
        have r2' : W7.drew.cell? ⟨rb, 2, none⟩ = some (.slice none 0 0) := r2
        clear hz
        go_wp2_with fail
        have hbr : bb ≠ rb := by have := HBr.out; omega
        go_region
        go_wp2_with fail
        refine bodyPost_ret (v := .tuple #[.agg #[.int .i8 x1, .int .i8 x2, .slice A6 zs.length c6], .int .i64 ((zs.length : Int) - xs.length), .int .i64 0]) (by simp [results, Try.results16, go_sem, r0, r1, r2]) rfl ?_
        rw [HG9.out]
        refine ⟨A6, c6, rfl, ?_, ?_⟩
        · first | exact (below_set3 HB7.out HRb.out).drew | exact below_set3 HB7.out.drew HRb.out
        · first | exact (own_setE (own_setE (own_setE HO7.out HNe.out _) HNe.out _) HNe.out _).drew | exact own_setE (own_setE (own_setE HO7.out.drew HNe.out _) HNe.out _) HNe.out _
      · have hne : (d != 0) = true := by simpa using h0
        have HG9 := hid (show R = ((0, 0, []), 0, d) by rw [HGG.out, HG3.out, if_neg (by rw [HD.out]; exact h0), HD.out])
        clear h0
        go_wp2_with fail
        refine bodyPost_ret (v := .tuple #[.agg #[.int .i8 0, .int .i8 0, .slice none 0 0], .int .i64 0, .int .i64 d]) (by simp [results, Try.results16, go_sem, r0, r1, r2]) rfl ?_
        rw [HG9.out]
        exact ⟨none, 0, rfl, below_set3 HB7.out HRb.out, World.ownsRow_nil _ _ _ _⟩
    · have hd : decide ((12 : Int) < (n : Int)) = true := by rw [decide_eq_true_iff]; omega
      have hd2 : decide (12 < n) = true := by rw [decide_eq_true_iff]; omega
      have HGG := hid (show R = ((0, 0, []), 0, 2) by rw [HG.out, if_pos rfl, if_neg hl12])
      clear hb4 hl12
      go_wp2_with fail
      refine bodyPost_ret (v := .tuple #[.agg #[.int .i8 0, .int .i8 0, .slice none 0 0], .int .i64 0, .int .i64 2]) (by simp [results, Try.results16, go_sem, r0, r1, r2]) rfl ?_
      rw [HGG.out]
      exact ⟨none, 0, rfl, below_set3 HB4.out HRb.out, World.ownsRow_nil _ _ _ _⟩
theorem LayAll_len (wi hi : Int) (xs : List Pc) (ws : List Wy) (h : xs.length ≤ 1048576) : (LayAllG wi hi xs ws).1.2.2.length ≤ 1048576 := by
  rw [layAll_eq]
  by_cases hb : bdOk wi hi xs = true
  · rw [if_pos hb]
    split
    · unfold all3G
      split
      · have := all_len (wi := wi) (hi := hi) ws hb
        show (allG wi hi xs ws).1.2.2.length ≤ 1048576
        omega
      · exact Nat.zero_le _
    · exact Nat.zero_le _
  · rw [if_neg hb]
    exact Nat.zero_le _
/-- The result of a function that hands back a board of its own and two numbers. -/
def ResB3i (w : World) (wi hi : Int) (R : List Pc) (sd cd : Int) (e : Ending) (w' : World) : Prop :=
  ∃ A c, e = .returned (.tuple #[.agg #[.int .i8 wi, .int .i8 hi, .slice A R.length c], .int .i64 sd, .int .i64 cd]) ∧ Below w.heap.size w w' ∧ w'.ownsRow w.heap.size 98 5 (.slice A R.length c) R.length (R.flatMap Pc.enc)
def LayAllKG (wi hi : Int) (xs : List Pc) (ws : List Wy) : (Int × Int × List Pc) × Int × Int := LayAllG wi hi xs ws
theorem LayAllK_S (w : World) (wi hi : Int) (wl : -128 ≤ wi) (wu : wi ≤ 127) (hl : -128 ≤ hi) (hu : hi ≤ 127) (a : Option Addr) (c : Nat) (xs : List Pc) (h : SlA Pc.enc 5 w a xs) (hnc : a = none → c = 0) (ok : ∀ p ∈ xs, p.Ok) (hs : xs.length ≤ 1048576) (al : Option Addr) (cl : Nat) (ws : List Wy) (hw : SlA Wy.enc 6 w al ws) (hnc2 : al = none → cl = 0) (okw : ∀ p ∈ ws, p.Ok) (hs2 : ws.length ≤ 1048576) :
    Calls Try.prog 16 #[.agg #[.int .i8 wi, .int .i8 hi, .slice a xs.length c], .slice al ws.length cl] w (ResB3i w (LayAllKG wi hi xs ws).1.1 (LayAllKG wi hi xs ws).1.2.1 (LayAllKG wi hi xs ws).1.2.2 (LayAllKG wi hi xs ws).2.1 (LayAllKG wi hi xs ws).2.2) :=
  LayAll_S w wi hi wl wu hl hu a c xs h hnc ok hs al cl ws hw hnc2 okw hs2
theorem LayAllK_I (w : World) (wi hi : Int) (wl : -128 ≤ wi) (wu : wi ≤ 127) (hl : -128 ≤ hi) (hu : hi ≤ 127) (a : Option Addr) (c : Nat) (xs : List Pc) (h : SlA Pc.enc 5 w a xs) (hnc : a = none → c = 0) (ok : ∀ p ∈ xs, p.Ok) (hs : xs.length ≤ 1048576) (al : Option Addr) (cl : Nat) (ws : List Wy) (hw : SlA Wy.enc 6 w al ws) (hnc2 : al = none → cl = 0) (okw : ∀ p ∈ ws, p.Ok) (hs2 : ws.length ≤ 1048576) :
    Calls Try.prog 18 #[.agg #[.int .i8 wi, .int .i8 hi, .slice a xs.length c], .slice al ws.length cl] w (ResB3i w (LayAllKG wi hi xs ws).1.1 (LayAllKG wi hi xs ws).1.2.1 (LayAllKG wi hi xs ws).1.2.2 (LayAllKG wi hi xs ws).2.1 (LayAllKG wi hi xs ws).2.2) :=
  LayAll_I w wi hi wl wu hl hu a c xs h hnc ok hs al cl ws hw hnc2 okw hs2
theorem LayAllK_len (wi hi : Int) (xs : List Pc) (ws : List Wy) (h : xs.length ≤ 1048576) : (LayAllKG wi hi xs ws).1.2.2.length ≤ 1048576 := LayAll_len wi hi xs ws h
end Go.Proofs.Ytgkgklgeobbmlaa
