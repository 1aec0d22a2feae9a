/-
  Cells that are longer by two: both the program's and the reference's.
  Conditions: the fields are in their kinds' ranges.
-/
import Derived.Test.YtlmojmealicefaaLongerI
import Derived.Test.YtlmojmealicefaaOb
namespace Go.Proofs.Ytlmojmealicefaa
open Go.RowKit
set_option linter.unusedSimpArgs false
set_option linter.unusedVariables false

def LongerCellsG (wi hi : Int) (xs : List Pc) (cells : List Ce) : List Ce × Int :=
  if bdOk wi hi xs = false then ([], 1) else if (pathB cells && cells.all fun p => freeG wi hi xs p.x p.y) = false then ([], 2)
  else if (longerG wi hi xs cells []).2 = true then ((longerG wi hi xs cells []).1, 0) else ([], 6)
theorem longer_len (wi hi : Int) (xs : List Pc) (cells barred : List Ce) : (longerG wi hi xs cells barred).1.length ≤ cells.length + 2 := by
  unfold longerG
  cases h : (List.range (4 * (cells.length - 1))).find? (okK wi hi xs cells barred) with
  | none => simp
  | some k =>
    dsimp only
    unfold insL
    cases cells[k / 4]? with
    | none => simp
    | some a =>
      cases cells[k / 4 + 1]? with
      | none => simp
      | some b =>
        simp only [List.length_append, List.length_take, List.length_drop, List.length_cons, List.length_nil]
        omega
theorem LongerCells_len (wi hi : Int) (xs : List Pc) (cells : List Ce) (hs : xs.length ≤ 1048576) (h : cells.length ≤ 1048576) : (LongerCellsG wi hi xs cells).1.length ≤ 1073741824 := by
  unfold LongerCellsG
  have := longer_len wi hi xs cells []
  split
  · simp
  · split
    · simp
    · split
      · dsimp only; omega
      · simp
theorem Ob.lencap {α : Type} {enc : α → List Value} {n : Nat} {E : TypeId} {b0 lo hi : Nat} {w : World} {A : Option Addr} {c : Nat} {xs : List α} (h : Ob enc n E b0 lo hi w A c xs) : xs.length ≤ c := by
  rcases h.own.2 with ⟨h1, h2⟩ | ⟨g, cap, cur, h1, _, _, h2, _⟩
  · omega
  · injection h1 with _ _ h3
    omega
theorem path_in {cells : List Ce} (h : pathB cells = true) : ∀ p ∈ cells, (0 ≤ p.x ∧ p.x ≤ 23) ∧ (0 ≤ p.y ∧ p.y ≤ 23) := by
  intro p hp
  obtain ⟨i, hi, e⟩ := List.mem_iff_getElem.1 hp
  unfold pathB at h
  rw [Bool.and_eq_true, List.all_eq_true] at h
  exact pathAt_in (by rw [List.getElem?_eq_getElem hi, e]) (h.2 i (List.mem_range.2 hi))
theorem all_take {α : Type} {f : α → Bool} {xs : List α} {k : Nat} {p : α} (h : (xs.take k).all f = true) (hp : xs[k]? = some p) (e : f p = true) : (xs.take (k + 1)).all f = true := by
  rw [List.take_add_one, hp, List.all_append, h]
  simp [e]
theorem all_false {α : Type} {f : α → Bool} {xs : List α} {k : Nat} {p : α} (hp : xs[k]? = some p) (e : f p = false) : xs.all f = false := by
  rw [List.all_eq_false]
  exact ⟨p, List.mem_of_getElem? hp, by simp [e]⟩
set_option maxRecDepth 100000 in
set_option maxHeartbeats 800000 in
theorem LongerCells_S (w : World) (wi hi : Int) (wl : -128 ≤ wi) (wu : wi ≤ 127) (hl : -128 ≤ hi) (hu : hi ≤ 127) (a : Option Addr) (c : Nat) (xs : List Pc) (h : SlA Pc.enc 5 w a xs) (nc : a = none → c = 0) (ok : ∀ p ∈ xs, p.Ok) (hs : xs.length ≤ 1048576)
    (ac : Option Addr) (cc : Nat) (cells : List Ce) (h2 : SlA Ce.enc 2 w ac cells) (nc2 : ac = none → cc = 0) (hcc : cells.length ≤ cc) (okc : ∀ p ∈ cells, p.Ok) (hs2 : cells.length ≤ 1048576) :
    Calls Try.prog 6 #[.agg #[.int .i8 wi, .int .i8 hi, .slice a xs.length c], .slice ac cells.length cc] w (ResS Ce.enc 2 48 w (LongerCellsG wi hi xs cells).1 (LongerCellsG wi hi xs cells).2) := by
  obtain ⟨W0, hW0⟩ : ∃ W, W = w.alloc (Obj.cells #[.int .i8 wi, .int .i8 hi, .slice a xs.length c] 34) := ⟨_, rfl⟩
  have B0 : Below w.heap.size w W0 := by rw [hW0]; exact (Below.refl _ _).alloc (Nat.le_refl _) _
  have hz0 : w.heap.size < W0.heap.size := by rw [hW0]; simp
  have hbd : BdA W0 w.heap.size wi hi a xs.length c := ⟨hz0, by rw [hW0]; simp, by rw [hW0]; simp, by rw [hW0]; simp⟩
  have h0 := h.below B0
  have h20 := h2.below B0
  have sc := h2.small
  have Ha := hid (ok_S w.heap.size wi hi a c xs W0 ⟨wl, wu, hl, hu⟩ hbd h0 ok)
  have Hc := hid (fun W (hB : Below W0.heap.size W0 W) => cells_S ac cc cells W (h20.below hB) hcc okc)
  obtain ⟨d1, hd1⟩ : ∃ d : Bool, bdOk wi hi xs = d := ⟨_, rfl⟩
  obtain ⟨d2, hd2⟩ : ∃ d : Bool, pathB cells = d := ⟨_, rfl⟩
  rw [hd1] at Ha
  rw [hd2] at Hc
  have HG := hid (show LongerCellsG wi hi xs cells = if d1 = false then ([], 1) else if (d2 && cells.all fun p => freeG wi hi xs p.x p.y) = false then ([], 2) else if (longerG wi hi xs cells []).2 = true then ((longerG wi hi xs cells []).1, 0) else ([], 6) by unfold LongerCellsG; rw [hd1, hd2])
  have HP := hid (fun h : d2 = true => path_in (hd2.trans h))
  obtain ⟨R, hR⟩ : ∃ R, R = LongerCellsG wi hi xs cells := ⟨_, rfl⟩
  rw [← hR] at HG ⊢
  clear hd1 hd2 hR
  have HB0 := hid B0
  clear B0
  go_enter Try.func6, Try.ntmps6
  go_wp2_with fail
  rw [← hW0]
  clear hW0
  refine Ha.out.mono ?_
  rintro e w1 ⟨rfl, hb1⟩
  have B1 := below_of HB0.out (by omega) hb1
  have z1 := hb1.size
  cases d1
  · go_wp2_with fail
    refine bodyPost_ret (v := .tuple #[.slice (some ⟨w1.heap.size, 0, none⟩) 0 0, .int .i64 1]) (by simp [results, Try.results6, go_sem]) rfl ?_
    have e := HG.out
    simp only [if_true] at e
    rw [e]
    exact ResS.empty B1
  · go_wp2_with fail
    refine (Hc.out _ hb1).mono ?_
    rintro e w2 ⟨rfl, hb2⟩
    have T2 := below_then hb1 hb2
    have z2 := T2.size
    go_wp2_with fail
    go_loopw [6, 7] (fun o i wr => ∃ k : Nat, k ≤ cells.length ∧ i = .int .i64 k ∧ Below W0.heap.size W0 wr ∧ ((o = .bool true ∧ d2 = true ∧ (cells.take k).all (fun p => freeG wi hi xs p.x p.y) = true) ∨ (o = .bool false ∧ (d2 && cells.all fun p => freeG wi hi xs p.x p.y) = false))) (fun _ i _ => cells.length + 1 - (intOf i).toNat)
    case atStart =>
      cases d2
      · exact ⟨0, Nat.zero_le _, rfl, T2, .inr ⟨rfl, rfl⟩⟩
      · exact ⟨0, Nat.zero_le _, rfl, T2, .inl ⟨rfl, rfl, rfl⟩⟩
    case round =>
      obtain ⟨k, hk, rfl, hbl, hor⟩ := hrel
      have hz := hbl.size
      rcases hor with ⟨rfl, rfl, ht⟩ | ⟨rfl, hf⟩
      · have HT := hid ht
        clear ht
        by_cases hlt : k < cells.length
        · have hd : decide ((k : Int) < (cells.length : Int)) = true := by rw [decide_eq_true_iff]; omega
          obtain ⟨b1, o1, ha, hb9, hc1⟩ := (h20.below hbl).cells (by omega)
          have e1 : cells[k]? = some cells[k] := List.getElem?_eq_getElem hlt
          have okp := okc _ (List.getElem_mem hlt)
          have Hp := hid e1
          clear e1
          generalize cells[k] = p at *
          have f0 : wr.cell? ⟨b1, o1 + k * 2, none⟩ = some (.int .i8 p.x) := hc1 k _ Hp.out 0 _ rfl
          have f1 : wr.cell? ⟨b1, o1 + k * 2 + 1, none⟩ = some (.int .i8 p.y) := hc1 k _ Hp.out 1 _ rfl
          subst ha
          have Hf := hid (free_S w.heap.size wi hi a c xs p.x p.y wr ⟨wl, wu, hl, hu⟩ ⟨okp.x0, okp.x1, okp.y0, okp.y1⟩ (hbd.below hbl hbd.lt) (h0.below hbl))
          obtain ⟨d3, hd3⟩ : ∃ d : Bool, freeG wi hi xs p.x p.y = d := ⟨_, rfl⟩
          rw [hd3] at Hf
          have Hd := hid hd3
          clear hd3 hc1 okp
          go_wp2_with fail
          refine Hf.out.mono ?_
          rintro e w3 ⟨rfl, hb3⟩
          cases d3
          · go_wp2_with fail
            exact ⟨⟨k + 1, by omega, by go_num, below_of hbl hz hb3, .inr ⟨rfl, by rw [all_false Hp.out Hd.out]; rfl⟩⟩, by simp [intOf]; omega⟩
          · go_wp2_with fail
            exact ⟨⟨k + 1, by omega, by go_num, below_of hbl hz hb3, .inl ⟨rfl, (by first | rfl | trivial), all_take HT.out Hp.out Hd.out⟩⟩, by simp [intOf]; omega⟩
        · obtain rfl : k = cells.length := by omega
          have hd : decide ((cells.length : Int) < (cells.length : Int)) = false := by rw [decide_eq_false_iff_not]; omega
          have HL := hid (longer_S w.heap.size wi hi a c xs ac cc cells (some ⟨wr.heap.size, 0, none⟩) 0 [] (wr.alloc (Obj.cells #[] 48)) ⟨wl, wu, hl, hu⟩ (hbd.below (hbl.alloc hz _) hbd.lt) (h0.below (hbl.alloc hz _)) (h20.below (hbl.alloc hz _)) hcc hs2 (HP.out (by first | rfl | trivial)) ⟨by simp, fun h => by simp at h⟩)
          have hall : (cells.all fun p => freeG wi hi xs p.x p.y) = true := by have := HT.out; rwa [List.take_length] at this
          have e := HG.out
          rw [hall] at e
          simp only [Bool.and_true, if_false, Bool.true_eq_false] at e
          have HE := hid e
          have EB := below_of HB0.out (by omega) (hbl.alloc hz (Obj.cells #[] 48))
          clear hall e
          obtain ⟨L1, hL1⟩ : ∃ L, L = (longerG wi hi xs cells []).1 := ⟨_, rfl⟩
          obtain ⟨L2, hL2⟩ : ∃ L, L = (longerG wi hi xs cells []).2 := ⟨_, rfl⟩
          rw [← hL1, ← hL2] at HL HE
          clear hL1 hL2
          go_wp2_with fail
          refine HL.out.mono ?_
          rintro e w4 ⟨A1, c1, rfl, hb4, own4⟩
          have EB4 := below_of EB (by simp; omega) hb4
          cases L2
          · go_wp2_with fail
            refine bodyPost_ret (v := .tuple #[.slice (some ⟨w4.heap.size, 0, none⟩) 0 0, .int .i64 6]) (by simp [results, Try.results6, go_sem]) rfl ?_
            rw [HE.out]
            exact ResS.empty EB4
          · go_wp2_with fail
            refine bodyPost_ret (v := .tuple #[.slice A1 L1.length c1, .int .i64 0]) (by simp [results, Try.results6, go_sem]) rfl ?_
            rw [HE.out]
            exact ⟨A1, c1, rfl, EB4, own_low own4 (by simp; omega)⟩
      · have HF := hid hf
        have EB := below_of HB0.out (by omega) hbl
        have e := HG.out
        rw [hf] at e
        simp only [if_true, Bool.true_eq_false, if_false] at e
        have HE := hid e
        clear hf e
        by_cases hlt : k < cells.length
        · have hd : decide ((k : Int) < (cells.length : Int)) = true := by rw [decide_eq_true_iff]; omega
          go_wp2_with fail
          refine bodyPost_ret (v := .tuple #[.slice (some ⟨wr.heap.size, 0, none⟩) 0 0, .int .i64 2]) (by simp [results, Try.results6, go_sem]) rfl ?_
          rw [HE.out]
          exact ResS.empty EB
        · have hd : decide ((k : Int) < (cells.length : Int)) = false := by rw [decide_eq_false_iff_not]; omega
          go_wp2_with fail
          refine bodyPost_ret (v := .tuple #[.slice (some ⟨wr.heap.size, 0, none⟩) 0 0, .int .i64 2]) (by simp [results, Try.results6, go_sem]) rfl ?_
          rw [HE.out]
          exact ResS.empty EB
theorem lcFn_I (b : Nat) (wi hi : Int) (a : Option Addr) (c : Nat) (xs : List Pc) (x y : Int) (w : World) (hb : BdA w b wi hi a xs.length c) (h : SlA Pc.enc 5 w a xs) :
    Calls Try.prog 25 #[.agg #[.int .i8 x, .int .i8 y], .pointer (some ⟨b, 0, none⟩)] w fun e w' => e = .returned (.bool (!freeG wi hi xs x y)) ∧ Below w.heap.size w w' := by
  obtain ⟨W0, hW0⟩ : ∃ W, W = w.alloc (Obj.cells #[.int .i8 x, .int .i8 y] 48) := ⟨_, rfl⟩
  have B0 : Below w.heap.size w W0 := by rw [hW0]; exact (Below.refl _ _).alloc (Nat.le_refl _) _
  have hz0 : w.heap.size < W0.heap.size := by rw [hW0]; simp
  have C1 := hid (free_I b wi hi a c xs x y W0 (hb.below B0 hb.lt) (h.below B0))
  generalize freeG wi hi xs x y = d at *
  have HB := hid B0
  clear B0
  go_enter Try.func25, Try.ntmps25
  go_wp2_with fail
  rw [← hW0]
  clear hW0
  refine C1.out.mono ?_
  rintro e w1 ⟨rfl, hb1⟩
  have B1 := below_of HB.out (by omega) hb1
  go_wp2_with fail
  go_ret
  exact ⟨rfl, B1⟩
set_option maxHeartbeats 400000 in
theorem idxLc_I (b : Nat) (wi hi : Int) (a : Option Addr) (c : Nat) (xs : List Pc) (ac : Option Addr) (cc : Nat) (cells : List Ce) (w : World) (hb : BdA w b wi hi a xs.length c) (h : SlA Pc.enc 5 w a xs) (h2 : SlA Ce.enc 2 w ac cells) :
    Calls Try.prog 45 #[.slice ac cells.length cc, .func (.func 25) #[] #[.pointer (some ⟨b, 0, none⟩)]] w fun e w' => e = .returned (.int .i64 (idxOf (fun p => !freeG wi hi xs p.x p.y) cells)) ∧ Below w.heap.size w w' := by
  have sa := h2.small
  obtain ⟨fn, hfn⟩ : ∃ fn : Ce → Bool, fn = fun p => !freeG wi hi xs p.x p.y := ⟨_, rfl⟩
  rw [← hfn]
  have Hfn := hid (fun p => congrFun hfn p)
  clear hfn
  go_enter Try.func45, Try.ntmps45
  go_wp2_with fail
  go_loopw [8] (fun i wr => ∃ k : Nat, k ≤ cells.length ∧ i = .int .i64 k ∧ (cells.take k).any fn = false ∧ Below w.heap.size w wr) (fun i _ => cells.length - (intOf i).toNat)
  case atStart => exact ⟨0, Nat.zero_le _, rfl, rfl, Below.refl _ _⟩
  case round =>
    obtain ⟨k, hk, rfl, ht, hbl⟩ := hrel
    by_cases hlt : k < cells.length
    · obtain ⟨b1, o1, rfl, hb1, hc1⟩ := (h2.below hbl).cells (by omega)
      have e1 : cells[k]? = some cells[k] := List.getElem?_eq_getElem hlt
      have Hp := hid e1
      have HT := hid ht
      clear ht e1
      generalize cells[k] = p at *
      have hz := hbl.size
      have Hs := hid (lcFn_I b wi hi a c xs p.x p.y wr (hb.below hbl hb.lt) (h.below hbl))
      obtain ⟨r, hr⟩ : ∃ r, (!freeG wi hi xs p.x p.y) = r := ⟨_, rfl⟩
      rw [hr] at Hs
      have Hr := hid ((Hfn.out p).trans hr)
      have f0 : wr.cell? ⟨b1, o1 + k * 2, none⟩ = some (.int .i8 p.x) := hc1 k _ Hp.out 0 _ rfl
      have f1 : wr.cell? ⟨b1, o1 + k * 2 + 1, none⟩ = some (.int .i8 p.y) := hc1 k _ Hp.out 1 _ rfl
      clear hr hc1
      cases r
      · go_wp2_with fail
        refine Hs.out.mono ?_
        rintro e w1 ⟨rfl, hb9⟩
        go_wp2_with fail
        exact ⟨⟨k + 1, by omega, by go_num, any_step HT.out Hp.out Hr.out, below_of hbl hz hb9⟩, by simp [intOf]; omega⟩
      · go_wp2_with fail
        refine Hs.out.mono ?_
        rintro e w1 ⟨rfl, hb9⟩
        go_wp2_with fail
        go_ret
        exact ⟨ret_int (idxOf_at HT.out Hp.out Hr.out).symm, below_of hbl hz hb9⟩
    · obtain rfl : k = cells.length := by omega
      have HT := hid ht
      clear ht
      go_wp2_with fail
      go_ret
      refine ⟨ret_int ?_, hbl⟩
      have := HT.out
      rw [List.take_length] at this
      exact (idxOf_none this).symm
theorem anyLc_I (b : Nat) (wi hi : Int) (a : Option Addr) (c : Nat) (xs : List Pc) (ac : Option Addr) (cc : Nat) (cells : List Ce) (w : World) (hb : BdA w b wi hi a xs.length c) (h : SlA Pc.enc 5 w a xs) (h2 : SlA Ce.enc 2 w ac cells) :
    Calls Try.prog 24 #[.slice ac cells.length cc, .func (.func 25) #[] #[.pointer (some ⟨b, 0, none⟩)]] w fun e w' => e = .returned (.bool (!cells.all fun p => freeG wi hi xs p.x p.y)) ∧ Below w.heap.size w w' := by
  have Hs := hid (idxLc_I b wi hi a c xs ac cc cells w hb h h2)
  have Hr := hid (idxOf_ge (fun p : Ce => !freeG wi hi xs p.x p.y) cells)
  have HA := hid (show (cells.any fun p => !freeG wi hi xs p.x p.y) = !cells.all fun p => freeG wi hi xs p.x p.y by rw [List.not_all_eq_any_not])
  generalize idxOf (fun p : Ce => !freeG wi hi xs p.x p.y) cells = v at *
  go_enter Try.func24, Try.ntmps24
  go_wp2_with fail
  refine Hs.out.mono ?_
  rintro e w1 ⟨rfl, hb⟩
  go_wp2_with fail
  go_ret
  exact ⟨ret_bool (Hr.out.trans HA.out), hb⟩
set_option maxRecDepth 100000 in
set_option maxHeartbeats 800000 in
theorem LongerCells_I (w : World) (wi hi : Int) (wl : -128 ≤ wi) (wu : wi ≤ 127) (hl : -128 ≤ hi) (hu : hi ≤ 127) (a : Option Addr) (c : Nat) (xs : List Pc) (h : SlA Pc.enc 5 w a xs) (nc : a = none → c = 0) (ok : ∀ p ∈ xs, p.Ok) (hs : xs.length ≤ 1048576)
    (ac : Option Addr) (cc : Nat) (cells : List Ce) (h2 : SlA Ce.enc 2 w ac cells) (nc2 : ac = none → cc = 0) (hcc : cells.length ≤ cc) (okc : ∀ p ∈ cells, p.Ok) (hs2 : cells.length ≤ 1048576) :
    Calls Try.prog 9 #[.agg #[.int .i8 wi, .int .i8 hi, .slice a xs.length c], .slice ac cells.length cc] w (ResS Ce.enc 2 48 w (LongerCellsG wi hi xs cells).1 (LongerCellsG wi hi xs cells).2) := by
  obtain ⟨W0, hW0⟩ : ∃ W, W = w.alloc (Obj.cells #[.int .i8 wi, .int .i8 hi, .slice a xs.length c] 34) := ⟨_, rfl⟩
  have B0 : Below w.heap.size w W0 := by rw [hW0]; exact (Below.refl _ _).alloc (Nat.le_refl _) _
  have hz0 : w.heap.size < W0.heap.size := by rw [hW0]; simp
  have hbd : BdA W0 w.heap.size wi hi a xs.length c := ⟨hz0, by rw [hW0]; simp, by rw [hW0]; simp, by rw [hW0]; simp⟩
  have h0 := h.below B0
  have h20 := h2.below B0
  have sc := h2.small
  have Ha := hid (ValidBoard_I wi hi a c xs W0 ⟨wl, wu, hl, hu⟩ h0 ok)
  have Hc := hid (fun W (hB : Below W0.heap.size W0 W) => isPath_I ac cc cells W (h20.below hB) hcc okc)
  have Hy := hid (fun W (hB : Below W0.heap.size W0 W) => anyLc_I w.heap.size wi hi a c xs ac cc cells W (hbd.below hB hbd.lt) (h0.below hB) (h20.below hB))
  obtain ⟨d1, hd1⟩ : ∃ d : Bool, bdOk wi hi xs = d := ⟨_, rfl⟩
  obtain ⟨d2, hd2⟩ : ∃ d : Bool, pathB cells = d := ⟨_, rfl⟩
  obtain ⟨d3, hd3⟩ : ∃ d : Bool, (cells.all fun p => freeG wi hi xs p.x p.y) = d := ⟨_, rfl⟩
  rw [hd1] at Ha
  rw [hd2] at Hc
  rw [hd3] at Hy
  have HG := hid (show LongerCellsG wi hi xs cells = if d1 = false then ([], 1) else if (d2 && d3) = false then ([], 2) else if (longerG wi hi xs cells []).2 = true then ((longerG wi hi xs cells []).1, 0) else ([], 6) by unfold LongerCellsG; rw [hd1, hd2, hd3])
  have HL := hid (fun W (h : d2 = true) (hB : Below W0.heap.size W0 W) => longer_I w.heap.size wi hi a c xs ac cc cells none 0 [] W (hbd.below hB hbd.lt) (h0.below hB) (h20.below hB) nc2 hs2 (path_in (hd2.trans h)) ⟨by simp, fun h => by simp at h⟩)
  obtain ⟨R, hR⟩ : ∃ R, R = LongerCellsG wi hi xs cells := ⟨_, rfl⟩
  rw [← hR] at HG ⊢
  obtain ⟨L1, hL1⟩ : ∃ L, L = (longerG wi hi xs cells []).1 := ⟨_, rfl⟩
  obtain ⟨L2, hL2⟩ : ∃ L, L = (longerG wi hi xs cells []).2 := ⟨_, rfl⟩
  rw [← hL1, ← hL2] at HL HG
  clear hd1 hd2 hd3 hR hL1 hL2
  have HB0 := hid B0
  have k0 := hbd.c0
  have k1 := hbd.c1
  have k2 := hbd.c2
  clear B0 hbd h0 h20
  go_enter Try.func9, Try.ntmps9
  go_wp2_with fail
  rw [← hW0]
  clear hW0
  refine Ha.out.mono ?_
  rintro e w1 ⟨rfl, hb1⟩
  have B1 := below_of HB0.out (by omega) hb1
  have z1 := hb1.size
  cases d1
  · go_wp2_with fail
    refine bodyPost_ret (v := .tuple #[.slice none 0 0, .int .i64 1]) (by simp [results, Try.results9, go_sem]) rfl ?_
    have e := HG.out
    simp only [if_true] at e
    rw [e]
    exact ResS.nil B1
  · go_wp2_with fail
    refine (Hc.out _ hb1).mono ?_
    rintro e w2 ⟨rfl, hb2⟩
    have T2 := below_then hb1 hb2
    have z2 := T2.size
    have B2 := below_of HB0.out (by omega) T2
    cases d2
    · go_wp2_with fail
      refine bodyPost_ret (v := .tuple #[.slice none 0 0, .int .i64 2]) (by simp [results, Try.results9, go_sem]) rfl ?_
      have e := HG.out
      simp only [if_true, Bool.true_eq_false, if_false, Bool.false_and] at e
      rw [e]
      exact ResS.nil B2
    · go_wp2_with fail
      refine (Hy.out _ T2).mono ?_
      rintro e w3 ⟨rfl, hb3⟩
      have T3 := below_then T2 hb3
      have z3 := T3.size
      have B3 := below_of HB0.out (by omega) T3
      cases d3
      · go_wp2_with fail
        refine bodyPost_ret (v := .tuple #[.slice none 0 0, .int .i64 2]) (by simp [results, Try.results9, go_sem]) rfl ?_
        have e := HG.out
        simp only [if_true, Bool.true_eq_false, if_false, Bool.and_false] at e
        rw [e]
        exact ResS.nil B3
      · have e := HG.out
        simp only [Bool.true_eq_false, if_false, Bool.and_true] at e
        have HE := hid e
        clear e
        go_wp2_with fail
        refine (HL.out _ (by first | rfl | trivial) T3).mono ?_
        rintro e w4 ⟨A1, c1, rfl, hb4, own4⟩
        have EB4 := below_of B3 (by omega) hb4
        cases L2
        · go_wp2_with fail
          refine bodyPost_ret (v := .tuple #[.slice none 0 0, .int .i64 6]) (by simp [results, Try.results9, go_sem]) rfl ?_
          rw [HE.out]
          exact ResS.nil EB4
        · go_wp2_with fail
          refine bodyPost_ret (v := .tuple #[.slice A1 L1.length c1, .int .i64 0]) (by simp [results, Try.results9, go_sem]) rfl ?_
          rw [HE.out]
          exact ⟨A1, c1, rfl, EB4, own_low own4 (by omega)⟩
end Go.Proofs.Ytlmojmealicefaa
