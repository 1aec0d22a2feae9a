/-
  Plain law of the gaps that are found by turns: a further gap in a sorted list, the best one, the list that is reached. One number laid into a list of numbers (slices.Insert), the list being a row of the caller's own. A list of numbers with a further one in its place, both the program's and the reference's. A list of numbers with a further one in its place, the reference's.
  GapsByTurns, both the program's and the reference's. GapsByTurns, the program's.
  Plain law of gaps: what the search for the fewest gaps tells; what the gaps by turns do; needless gaps. The laws' helpers: gaps that are drawn, two boards are the same, a byte of the input.
  Conditions: none; plain law. the place lies ahead of the list's end. the list is ascending and the number is not in it. the fields are in their kinds' ranges. none; plain law. not too many bytes.
-/
import Derived.Test.YthhfndifcdiomaaGreatOrdLaw
import Derived.Test.YthhfndifcdiomaaGreatLeftS
import Derived.Test.YthhfndifcdiomaaGreatSafe
import Derived.Test.YthhfndifcdiomaaGreatCopySz
import Derived.Shelf.Spec.SlicesInsert
import Derived.Lib.AppendZerosOnto
import Derived.Laws.NewBlocks
import Derived.Laws.OwnMore
import Derived.Test.YthhfndifcdiomaaGreatLaySr
import Derived.Test.YthhfndifcdiomaaGreatCostI
import Derived.Test.YthhfndifcdiomaaGreatSomeS
import Derived.Test.YthhfndifcdiomaaGreatFewS
import Derived.Test.YthhfndifcdiomaaGreatDrawQ
import Derived.Test.YthhfndifcdiomaaGreatNeed
namespace Go.Proofs.YthhfndifcdiomaaGreat
open Go.RowKit
set_option linter.unusedSimpArgs false
set_option linter.unusedVariables false
open Go.RowKit Go.Lib

/-- How many are less, and where one more belongs. -/
def cntL (gs : List Int) (i : Int) : Nat := gs.countP (fun g => decide (g < i))
def insN (gs : List Int) (i : Int) : List Int := gs.take (cntL gs i) ++ [i] ++ gs.drop (cntL gs i)
theorem cntL_le (gs : List Int) (i : Int) : cntL gs i ≤ gs.length := List.countP_le_length
theorem cnt_lt (i : Int) : ∀ (gs : List Int), gs.Pairwise (· < ·) → ∀ (k : Nat) (g : Int), gs[k]? = some g → (g < i ↔ k < cntL gs i)
  | [], _, k, g, h => by simp at h
  | a :: l, hp, k, g, h => by
    rw [List.pairwise_cons] at hp
    have ih := cnt_lt i l hp.2
    have hz : ¬ a < i → cntL l i = 0 := fun hn => by
      unfold cntL
      rw [List.countP_eq_zero]
      intro b hb
      have := hp.1 b hb
      simp only [decide_eq_true_eq]
      omega
    have e : cntL (a :: l) i = cntL l i + (if a < i then 1 else 0) := by
      unfold cntL
      rw [List.countP_cons]
      by_cases ha : a < i
      · simp [ha]
      · simp [ha]
    rw [e]
    cases k with
    | zero =>
      rw [List.getElem?_cons_zero, Option.some.injEq] at h
      subst h
      by_cases ha : a < i
      · rw [if_pos ha]; exact ⟨fun _ => by omega, fun _ => ha⟩
      · rw [if_neg ha, hz ha]; exact ⟨fun h => absurd h ha, fun h => absurd h (by omega)⟩
    | succ k =>
      rw [List.getElem?_cons_succ] at h
      by_cases ha : a < i
      · rw [if_pos ha, ih k g h]; omega
      · rw [if_neg ha, hz ha]
        have := hp.1 g (List.mem_of_getElem? h)
        exact ⟨fun h => absurd h (by omega), fun h => absurd h (by omega)⟩
theorem insN_len (gs : List Int) (i : Int) : (insN gs i).length = gs.length + 1 := by
  have := cntL_le gs i
  unfold insN
  rw [List.length_append, List.length_append, List.length_take, List.length_drop]
  simp
  omega
theorem insN_perm (gs : List Int) (i : Int) : (insN gs i).Perm (i :: gs) := by
  unfold insN
  have h : (gs.take (cntL gs i) ++ ([i] ++ gs.drop (cntL gs i))).Perm (i :: (gs.take (cntL gs i) ++ gs.drop (cntL gs i))) := List.perm_middle
  rw [List.take_append_drop] at h
  rw [List.append_assoc]
  exact h
theorem insN_mem {gs : List Int} {i x : Int} : x ∈ insN gs i ↔ x = i ∨ x ∈ gs := by
  rw [(insN_perm gs i).mem_iff, List.mem_cons]
theorem insN_sorted {gs : List Int} {i : Int} (h : gs.Pairwise (· < ·)) (hn : i ∉ gs) : (insN gs i).Pairwise (· < ·) := by
  have hc := cnt_lt i gs h
  have e : gs.take (cntL gs i) ++ gs.drop (cntL gs i) = gs := List.take_append_drop _ _
  have h2 := h
  rw [← e, List.pairwise_append] at h2
  unfold insN
  rw [List.append_assoc, List.pairwise_append]
  refine ⟨h2.1, ?_, ?_⟩
  · rw [List.singleton_append, List.pairwise_cons]
    refine ⟨fun b hb => ?_, h2.2.1⟩
    obtain ⟨k, hk⟩ := List.mem_iff_getElem?.1 hb
    rw [List.getElem?_drop] at hk
    have h3 := hc _ _ hk
    have h4 : b ∈ gs := List.mem_of_getElem? hk
    have h5 : b ≠ i := fun e => hn (e ▸ h4)
    have h6 : ¬ b < i := fun h => absurd (h3.1 h) (by omega)
    omega
  · intro a ha b hb
    obtain ⟨k, hk⟩ := List.mem_iff_getElem?.1 ha
    rw [List.getElem?_take] at hk
    split at hk
    · rename_i hlt
      have ha2 : a < i := (hc _ _ hk).2 hlt
      rw [List.singleton_append, List.mem_cons] at hb
      rcases hb with rfl | hb
      · exact ha2
      · exact h2.2.2 a ha b hb
    · cases hk
/-- The reference's loop over the gaps that are there, up to the k-th. -/
def insR (gs : List Int) (i : Int) (k : Nat) : List Int := if k ≤ cntL gs i then gs.take k else gs.take (cntL gs i) ++ [i] ++ (gs.take k).drop (cntL gs i)
theorem insR_all {gs : List Int} {i : Int} : (insR gs i gs.length) ++ (if gs.length ≤ cntL gs i then [i] else []) = insN gs i := by
  have := cntL_le gs i
  unfold insR insN
  by_cases h : gs.length ≤ cntL gs i
  · have e : cntL gs i = gs.length := by omega
    rw [if_pos h, if_pos h, e, List.take_of_length_le (Nat.le_refl _), List.drop_of_length_le (Nat.le_refl _), List.append_nil]
  · rw [if_neg h, if_neg h, List.append_nil, List.take_of_length_le (Nat.le_refl gs.length)]
theorem insR_step {gs : List Int} {i g : Int} {k : Nat} (hk : gs[k]? = some g) : insR gs i (k + 1) = (if k = cntL gs i then insR gs i k ++ [i] else insR gs i k) ++ [g] := by
  have hlt := (List.getElem?_eq_some_iff.1 hk).1
  have e : gs.take (k + 1) = gs.take k ++ [g] := by rw [List.take_add_one, hk]; rfl
  have hl : (gs.take k).length = k := by rw [List.length_take]; omega
  unfold insR
  by_cases h1 : k < cntL gs i
  · rw [if_pos (by omega), if_neg (by omega), if_pos (by omega), e]
  · by_cases h2 : k = cntL gs i
    · rw [if_neg (by omega), if_pos h2, if_pos (by omega), e, ← h2, List.drop_append_of_le_length (by omega), List.drop_of_length_le (by omega), List.nil_append]
    · rw [if_neg (by omega), if_neg h2, if_neg (by omega), e, List.drop_append_of_le_length (by omega)]
      simp only [List.append_assoc]
/-- The gaps after m turns. -/
def costN (xs : List Pc) (gs : List Int) (i : Nat) : Int := leftG xs (insN gs (i : Int))
def gapT (xs : List Pc) : Nat → List Int
  | 0 => []
  | m + 1 => insN (gapT xs m) (turnB (costN xs (gapT xs m)) (hasO (gapT xs m)) xs.length).1
def GapOk (n : Nat) (gs : List Int) : Prop := gs.Pairwise (· < ·) ∧ ∀ g ∈ gs, 0 ≤ g ∧ g < n
theorem GapOk.len {n : Nat} {gs : List Int} (h : GapOk n gs) : gs.length ≤ n := by
  have hnd : gs.Nodup := h.1.imp (fun h => by omega)
  have := (hnd).length_le_of_subset (l₂ := (List.range n).map (fun (i : Nat) => (i : Int))) (fun x hx => by
    have := h.2 x hx
    exact List.mem_map.2 ⟨x.toNat, List.mem_range.2 (by omega), by omega⟩)
  simpa using this
theorem GapOk.ins {n : Nat} {gs : List Int} (h : GapOk n gs) {i : Nat} (hi : i < n) (hf : hasO gs i = false) : GapOk n (insN gs (i : Int)) := by
  have hn : (i : Int) ∉ gs := fun hm => by
    unfold hasO at hf
    rw [any_isN.2 hm] at hf
    cases hf
  refine ⟨insN_sorted h.1 hn, fun g hg => ?_⟩
  rcases insN_mem.1 hg with rfl | hg
  · omega
  · exact h.2 g hg
theorem keep_all (gs : List Int) : ∀ (l : List Pc) (i : Nat), (∀ j, j < l.length → gs.any (isN ((i + j : Nat) : Int)) = true) → keepL gs i l = []
  | [], _, _ => rfl
  | p :: l, i, h => by
    have h0 := h 0 (by simp)
    have ih := keep_all gs l (i + 1) (fun j hj => by rw [show i + 1 + j = i + (j + 1) by omega]; exact h (j + 1) (by simp; omega))
    unfold keepL
    rw [Nat.add_zero] at h0
    rw [h0, ih]
    rfl
theorem left_free {xs : List Pc} {gs : List Int} (h : 0 < leftG xs gs) : ∃ i, i < xs.length ∧ hasO gs i = false := by
  refine Classical.byContradiction fun hno => ?_
  have e : keepL gs 0 xs = [] := keep_all gs xs 0 (fun j hj => by
    cases hh : hasO gs j with
    | true => rw [Nat.zero_add]; exact hh
    | false => exact absurd ⟨j, hj, hh⟩ hno)
  have hc := costW_in []
  unfold leftG at h
  rw [e] at h
  simp at hc
  omega
theorem gap_next {xs : List Pc} {gs : List Int} (hg : GapOk xs.length gs) (h : 0 < leftG xs gs) (cost : Nat → Int) :
    ∃ i : Nat, (turnB cost (hasO gs) xs.length).1 = (i : Int) ∧ i < xs.length ∧ hasO gs i = false ∧ GapOk xs.length (insN gs (i : Int)) := by
  obtain ⟨i, hi, hf⟩ := left_free h
  obtain ⟨t1, t2, t3, _⟩ := turn_in cost (hasO gs) xs.length
  have t4 := t3 i hi hf
  have t5 := (t2 t4).1
  have hlt : (turnB cost (hasO gs) xs.length).1.toNat < xs.length := by omega
  exact ⟨_, by omega, hlt, t5, hg.ins hlt t5⟩
/-- How many turns there are. -/
def stT (xs : List Pc) (most : Int) : Nat → Nat → Nat
  | 0, m => m
  | f + 1, m => if leftG xs (gapT xs m) ≤ most then m else stT xs most f (m + 1)
theorem stT_stop {xs : List Pc} {most : Int} {f m : Nat} (h : leftG xs (gapT xs m) ≤ most) : stT xs most f m = m := by
  cases f with
  | zero => rfl
  | succ f => unfold stT; rw [if_pos h]
theorem stT_go {xs : List Pc} {most : Int} {f m : Nat} (h : ¬ leftG xs (gapT xs m) ≤ most) : stT xs most (f + 1) m = stT xs most f (m + 1) := by
  conv => lhs; unfold stT
  rw [if_neg h]
def GapsByTurnsG (wi hi : Int) (xs : List Pc) (most : Int) : List Int × Int :=
  if builtG wi hi xs = 0 then (if most < 0 then ([], 2) else (gapT xs (stT xs most xs.length 0), 0)) else ([], builtG wi hi xs)
theorem gap_ok (xs : List Pc) (most : Int) (h0 : 0 ≤ most) : ∀ (f m : Nat), GapOk xs.length (gapT xs m) → (gapT xs m).length = m → f + m = xs.length → GapOk xs.length (gapT xs (stT xs most f m)) ∧ (gapT xs (stT xs most f m)).length ≤ xs.length
  | 0, m, h, hl, hf => ⟨h, by show (gapT xs m).length ≤ _; omega⟩
  | f + 1, m, h, hl, hf => by
    by_cases hs : leftG xs (gapT xs m) ≤ most
    · rw [stT_stop hs]; exact ⟨h, by omega⟩
    · rw [stT_go hs]
      obtain ⟨i, hi, hlt, hf2, hok⟩ := gap_next h (by omega) (costN xs (gapT xs m))
      have e : gapT xs (m + 1) = insN (gapT xs m) (i : Int) := by rw [show gapT xs (m + 1) = insN (gapT xs m) (turnB (costN xs (gapT xs m)) (hasO (gapT xs m)) xs.length).1 from rfl, hi]
      exact gap_ok xs most h0 f (m + 1) (by rw [e]; exact hok) (by rw [e, insN_len, hl]) (by omega)
theorem GapsByTurns_len (wi hi : Int) (xs : List Pc) (most : Int) (h : xs.length ≤ 1048576) : (GapsByTurnsG wi hi xs most).1.length ≤ 1048576 := by
  unfold GapsByTurnsG
  split
  · split
    · simp
    · have := (gap_ok xs most (by omega) xs.length 0 ⟨List.Pairwise.nil, fun g hg => absurd hg List.not_mem_nil⟩ rfl (by omega)).2
      exact Nat.le_trans this h
  · simp
theorem inN_list (T D S four : List Value) (i : Nat) (h4 : four.length = 1) (hT : T.length = i) (hS : S.length = 1) :
    setL (setL (T ++ D ++ S) ((i + 1)) D) (i) four = T ++ four ++ D := by
  have e1 : setL (T ++ D ++ S) ((i + 1)) D = (T ++ D ++ S).take ((i + 1)) ++ D := by
    rw [setL_spread _ _ _ (by simp only [List.length_append]; omega), List.drop_of_length_le (by simp only [List.length_append]; omega), List.append_nil]
  have hl : ((T ++ D ++ S).take ((i + 1))).length = (i + 1) := by rw [List.length_take]; simp only [List.length_append]; omega
  rw [e1, setL_spread _ _ _ (by rw [List.length_append, hl]; omega), h4]
  have e2 : ((T ++ D ++ S).take ((i + 1)) ++ D).take (i) = T := by
    rw [List.take_append_of_le_length (by rw [hl]; omega), List.take_take, Nat.min_eq_left (by omega), List.append_assoc, List.take_append_of_le_length (by omega), List.take_of_length_le (by omega)]
  have e3 : ((T ++ D ++ S).take ((i + 1)) ++ D).drop (i + 1) = D := by
    rw [List.drop_append_of_le_length (by rw [hl]; omega), List.drop_of_length_le (by rw [hl]; omega), List.nil_append]
  rw [e2, e3]
theorem inN_list2 (X T D four : List Value) (i n : Nat) (h4 : four.length = 1) (hX : X.length = (n + 1)) (hT : X.take (i) = T) (hD : D.length = (n - i)) (hi : i ≤ n) :
    setL (setL X (i) four) ((i + 1)) D = T ++ four ++ D := by
  have hl : (setL X (i) four).length = X.length := setL_length _ _ _
  rw [setL_spread D _ _ (by rw [hl]; omega), List.drop_of_length_le (by rw [hl]; omega), List.append_nil, setL_spread _ _ _ (by omega), hT, h4]
  congr 1
  have : T.length = i := by rw [← hT, List.length_take]; omega
  rw [List.take_append_of_le_length (by simp; omega), List.take_of_length_le (by simp; omega)]
set_option maxHeartbeats 4000000 in
set_option maxRecDepth 100000 in
/-- slices.Insert, one number: there is room: in place. -/
theorem inN_shift (b off n c i vb : Nat) (cs vs : List Value) (w : World) (hi : i < n) (hroom : n + 1 ≤ c) (hc63 : c ≤ 9223372036854775807) (hvb : vb ≠ b)
    (hcl : cs.length = n) (hvl : vs.length = 1)
    (hcs : ∀ j v, cs[j]? = some v → w.cell? ⟨b, off + j, none⟩ = some v) (hsp : ∀ j, j < (n + 1) → (w.cell? ⟨b, off + j, none⟩).isSome = true) (hfz : ∀ j, j < (n + 1) → w.frozen? ⟨b, off + j, none⟩ = false)
    (hvs : ∀ j v, vs[j]? = some v → w.cell? ⟨vb, 0 + j, none⟩ = some v) (h1c : ∀ v ∈ cs, v.oneCell' = true) (h1v : ∀ v ∈ vs, v.oneCell' = true)
    (tA tB : TypeId) (kA kB : Nat) (hsa : w.shape? vb = some (tA, kA)) (hsb : w.shape? b = some (tB, kB)) (hkB : kB ≠ 0) (hfa : w.frozen? ⟨vb, 0, none⟩ = false) (hfe : w.frozen? ⟨vb, kA, none⟩ = false) :
    Calls Tryz.prog 76 #[.slice (some ⟨b, off, none⟩) n c, .int .i64 i, .slice (some ⟨vb, 0, none⟩) (1 : Nat) 1] w fun e w' =>
      e = .returned (.slice (some ⟨b, off, none⟩) (n + 1) c) ∧ w' = (w.drew.setCells b (off + (i + 1)) (cs.drop (i))).setCells b (off + i) vs := by
  have u24 := run_underlying Tryz.underlying29
  have hz2 : ¬ ((i : Int) = (n : Int)) := by omega
  have hsz : (Tryz.prog.info? 2).map (·.size) = some 1 := by kernel_rfl
  have hov : ∀ lb cb, (callFunc 95 #[.slice (some ⟨vb, 0, none⟩) (1 : Nat) 1, .slice (some ⟨b, off + (i + 1), none⟩) lb cb]).run Tryz.prog w = .ok (.value (.bool false)) w := fun lb cb => by
    rw [run_callFunc_extern Tryz.func95 (by kernel_rfl) (by kernel_rfl) (by kernel_rfl) (e := Extern.SlicesOverlaps.overlaps #[29, 29 ] #[4 ]) (by kernel_rfl),
      Lib.run_overlaps_apart w 29 4 2 Tryz.underlying29 1 Tryz.sizeOf2 ⟨vb, 0, none⟩ ⟨b, off + (i + 1), none⟩ 1 1 lb cb hvb tA tB kA kB hsa hsb hkB hfa hfe]
    rfl
  have hdl : (cs.drop (i)).length = (n - i) := by rw [List.length_drop, hcl]
  have mixed : Tryz.prog.follows .mixedOrders = true := by kernel_rfl
  have hw1 : IntKind.i64.wrap ((i : Int) + 1) = (i : Int) + 1 := by rw [IntKind.wrap_i64]; omega
  have hb1 : (0 : Int) ≤ (i : Int) + 1 := by omega
  have hin : i ≤ n := by omega
  have htn : ((i : Int) + 1).toNat = i + 1 := by omega
  have hb2 : ¬ (c = i + 1) := by omega
  have hb3 : (i : Int) ≤ (n : Int) + 1 := by omega
  have hb4 : ¬ (c = i) := by omega
  have hcp1 : ∀ ty dc sc, (Builtin.copy_ #[29, 29 ] ty #[.slice (some ⟨b, off + (i + 1), none⟩) (n - i) dc, .slice (some ⟨b, off + i, none⟩) (n + 1 - i) sc]).run Tryz.prog w.drew = .ok (goInt (Nat.min (n + 1 - i) (n - i))) (w.drew.setCells b (off + (i + 1)) (cs.drop (i))) := fun ty dc sc =>
    copy_cells_sz w.drew _ _ ty 2 1 b (off + (i + 1)) (n - i) dc ⟨b, off + i, none⟩ (n + 1 - i) sc (cs.drop (i)) Tryz.underlying29 hsz (by rw [hdl]; simp only [Nat.min_def]; split <;> omega)
      (fun j v hj => by rw [Addr.add_lit, Nat.add_assoc]; exact hcs (i + j) v (by rwa [List.getElem?_drop] at hj))
      (fun j hj => by rw [Nat.add_assoc]; exact hsp _ (by omega)) (fun j hj => by rw [Nat.add_assoc]; exact hfz _ (by omega)) (fun v hv => h1c v (List.mem_of_mem_drop hv))
  obtain ⟨W1, hW1⟩ : ∃ W1, W1 = w.drew.setCells b (off + (i + 1)) (cs.drop (i)) := ⟨_, rfl⟩
  have hsp1 : ∀ k, k < (n + 1) → (W1.cell? ⟨b, off + k, none⟩).isSome = true := fun k hk => by
    rw [hW1]
    exact isSome_setCells b _ _ _ (fun j hj => by rw [Nat.add_assoc]; exact hsp _ (by omega)) _ (hsp k hk)
  have hcp2 : ∀ (W : World), (∀ x, W.cell? x = W1.cell? x) → (∀ x, W.frozen? x = W1.frozen? x) → ∀ ty dc, (Builtin.copy_ #[29, 29 ] ty #[.slice (some ⟨b, off + i, none⟩) (n + 1 - i) dc, .slice (some ⟨vb, 0, none⟩) (1 : Nat) 1]).run Tryz.prog W = .ok (goInt (Nat.min 1 (n + 1 - i))) (W.setCells b (off + i) vs) := fun W hWc hWf ty dc =>
    copy_cells_sz W _ _ ty 2 1 b (off + i) (n + 1 - i) dc ⟨vb, 0, none⟩ 1 1 vs Tryz.underlying29 hsz (by rw [hvl]; simp only [Nat.min_def]; split <;> omega)
      (fun j v hj => by
        rw [Addr.add_lit, hWc, hW1, World.cell?_setCells_out b _ _ _ _ (fun h _ => absurd h hvb)]
        exact hvs j v hj)
      (fun j hj => by rw [hWc, Nat.add_assoc]; exact hsp1 _ (by omega)) (fun j hj => by rw [hWf, hW1, World.frozen?_setCells, Nat.add_assoc]; exact hfz _ (by omega)) h1v
  rw [← hW1] at hcp1
  go_enter Tryz.func76, Tryz.ntmps76
  go_wp2_with (simp only [hov])
  go_region_law_o (refine step_copy_runI rfl _ _ 29 29 rfl _ _ (by simp [Act.eval, Act.put]) (by simp [Act.eval, Act.put]) (hcp1 _ _ _) ?_)
  go_wp2_with (at_builtin; refine wpList_copy_runI _ rfl _ _ 29 29 rfl _ _ rfl rfl (hcp2 _ (fun _ => rfl) (fun _ => rfl) _ _) ?_)
  go_ret
  first | exact ⟨rfl, rfl⟩ | exact ⟨rfl, by rw [hW1]⟩
set_option maxHeartbeats 4000000 in
set_option maxRecDepth 100000 in
/-- slices.Insert, one number: there is no room: a new row. -/
theorem inN_grow (b off n c i vb : Nat) (cs vs : List Value) (w : World) (hi : i < n) (hnc : n ≤ c) (hroom : c < n + 1) (hbig : (n + 1) * 8 ≤ 140737488355328)
    (hcl : cs.length = n) (hvl : vs.length = 1)
    (hcs : ∀ j v, cs[j]? = some v → w.cell? ⟨b, off + j, none⟩ = some v)
    (hvs : ∀ j v, vs[j]? = some v → w.cell? ⟨vb, 0 + j, none⟩ = some v) (h1c : ∀ v ∈ cs, v.oneCell' = true) (h1v : ∀ v ∈ vs, v.oneCell' = true) :
    Calls Tryz.prog 76 #[.slice (some ⟨b, off, none⟩) n c, .int .i64 i, .slice (some ⟨vb, 0, none⟩) (1 : Nat) 1] w fun e w' =>
      e = .returned (.slice (some ⟨w.heap.size, 0, none⟩) (n + 1) (grownCap w (n + 1) c 2)) ∧
      w' = (((w.alloc (.cells ((cs.take (i)).toArray ++ Builtin.zeroCells (Value.int .i64 0).cells (n + 1 - i) ++ Builtin.zeroCells (Value.int .i64 0).cells (grownCap w (n + 1) c 2 - (n + 1))) 2)).drew.setCells w.heap.size (i) vs).drew).setCells w.heap.size ((i + 1)) (cs.drop (i)) := by
  have u24 := run_underlying Tryz.underlying29
  have mixed : Tryz.prog.follows .mixedOrders = true := by kernel_rfl
  have hinf : (Tryz.prog.info? 2).map (fun i => (i.zero, i.size, i.bytes)) = some (some (.int .i64 0), 1, 8) := by kernel_rfl
  obtain ⟨i0, hi0, hzz⟩ := Option.map_eq_some_iff.1 hinf
  simp only [Prod.mk.injEq] at hzz
  obtain ⟨hz0, hzs, hzb⟩ := hzz
  clear hinf
  have hz2 : ¬ ((i : Int) = (n : Int)) := by omega
  have hz3 : (c : Int) < (n : Int) + 1 := by omega
  have hsz : (Tryz.prog.info? 2).map (·.size) = some 1 := by rw [hi0]; simp [hzs]
  have hbw : b < w.heap.size := block_lt_of_cell (hcs 0 _ (List.getElem?_eq_getElem (by omega)))
  have hvw : vb < w.heap.size := block_lt_of_cell (hvs 0 _ (List.getElem?_eq_getElem (by omega)))
  have hkk : (n : Int) + 1 - (i : Int) = ((n + 1 - i : Nat) : Int) := by omega
  have hik : i + (n + 1 - i) = n + 1 := by omega
  have hold : (Builtin.firstCells i0.size i (.slice (some ⟨b, off, none⟩) i c)).run Tryz.prog w.drew = .ok (cs.take (i)).toArray w.drew := by
    rw [hzs]
    exact run_firstCells_some w.drew 1 i ⟨b, off, none⟩ i c (cs.take (i)) (by rw [List.length_take]; omega) (fun j v hj => by
      rw [Addr.add_lit]
      rw [List.getElem?_take] at hj
      split at hj
      · exact hcs j v hj
      · cases hj)
  have hrz : ∀ ty, (Builtin.append_ #[29, 3 ] ty #[.slice (some ⟨b, off, none⟩) i c, .int .i64 ((n : Int) + 1 - (i : Int))]).run Tryz.prog w =
      .ok (.slice (some ⟨w.heap.size, 0, none⟩) (n + 1) (grownCap w (n + 1) c 2)) (w.drew.alloc (.cells ((cs.take (i)).toArray ++ Builtin.zeroCells (Value.int .i64 0).cells (n + 1 - i) ++ Builtin.zeroCells (Value.int .i64 0).cells (grownCap w (n + 1) c 2 - (n + 1))) 2)) := fun ty => by
    have h := Lib.run_append_grow_zeros w 29 3 ty 2 i0 _ .i64 .i64 Tryz.underlying29 Tryz.underlying3 hi0 hz0 (some ⟨b, off, none⟩) i c (cs.take (i)) hold (n + 1 - i) (by omega) (by omega) (by omega) (by omega) (by rw [hzb]; omega) (by rw [hzb, hik]; exact growslice_fits hroom hbig)
    rw [hik] at h
    rw [hkk]
    exact h
  obtain ⟨G, hG⟩ : ∃ G, G = grownCap w (n + 1) c 2 := ⟨_, rfl⟩
  obtain ⟨ROW, hROW⟩ : ∃ ROW : Array Value, ROW = (cs.take (i)).toArray ++ Builtin.zeroCells (Value.int .i64 0).cells (n + 1 - i) ++ Builtin.zeroCells (Value.int .i64 0).cells (G - (n + 1)) := ⟨_, rfl⟩
  rw [← hG] at hrz ⊢
  rw [← hROW] at hrz ⊢
  have hRl : (n + 1) ≤ ROW.size := by
    rw [hROW]
    simp [Builtin.zeroCells, Value.cells]
    omega
  obtain ⟨W1, hW1⟩ : ∃ W1, W1 = w.drew.alloc (.cells ROW 2) := ⟨_, rfl⟩
  rw [← hW1] at hrz
  have hN : ∀ j, j < (n + 1) → (W1.cell? ⟨w.heap.size, j, none⟩).isSome = true := fun j hj => by
    rw [hW1, World.cell?_alloc_at (w := w.drew) ROW _ w.heap.size j rfl, Array.getElem?_eq_getElem (by omega)]; rfl
  have hNf : ∀ j, W1.frozen? ⟨w.heap.size, j, none⟩ = false := fun j => by rw [hW1]; exact World.frozen?_alloc_at (w := w.drew) ROW _ w.heap.size j rfl
  have hOb : ∀ j v, w.cell? ⟨b, j, none⟩ = some v → W1.cell? ⟨b, j, none⟩ = some v := fun j v h => by rw [hW1, World.cell?_alloc_past (w := w.drew) _ b j hbw]; exact h
  have hOv : ∀ j v, w.cell? ⟨vb, j, none⟩ = some v → W1.cell? ⟨vb, j, none⟩ = some v := fun j v h => by rw [hW1, World.cell?_alloc_past (w := w.drew) _ vb j hvw]; exact h
  have hcpA : ∀ (W : World), (∀ x, W.cell? x = W1.cell? x) → (∀ x, W.frozen? x = W1.frozen? x) → ∀ ty dc, (Builtin.copy_ #[29, 29 ] ty #[.slice (some ⟨w.heap.size, i, none⟩) (n + 1 - i) dc, .slice (some ⟨vb, 0, none⟩) (1 : Nat) 1]).run Tryz.prog W = .ok (goInt (Nat.min 1 (n + 1 - i))) (W.setCells w.heap.size (i) vs) := fun W hWc hWf ty dc =>
    copy_cells_sz W _ _ ty 2 1 w.heap.size (i) (n + 1 - i) dc ⟨vb, 0, none⟩ 1 1 vs Tryz.underlying29 hsz (by rw [hvl]; simp only [Nat.min_def]; split <;> omega)
      (fun j v hj => by rw [Addr.add_lit, hWc]; exact hOv _ v (hvs j v hj))
      (fun j hj => by rw [hWc]; exact hN _ (by omega)) (fun j hj => by rw [hWf]; exact hNf _) h1v
  have hGn : n + 1 ≤ G := by rw [hG]; exact grownCap_ge w _ _ _
  have hG63 : G ≤ 9223372036854775807 := by
    have := grownCap_le_maxLen w (n + 1) c 2 (by unfold maxLen; omega)
    rw [← hG] at this
    unfold maxLen at this
    omega
  have hGi : ¬ (G = i) := by omega
  have hGim : ¬ (G = i + 1) := by omega
  have hci : ¬ (c = i) := by omega
  have hbN : b ≠ w.heap.size := by omega
  have hdl : (cs.drop (i)).length = (n - i) := by rw [List.length_drop, hcl]
  have hcpB : ∀ (W : World), (∀ x, W.cell? x = (W1.setCells w.heap.size (i) vs).cell? x) → (∀ x, W.frozen? x = (W1.setCells w.heap.size (i) vs).frozen? x) → ∀ ty dc sc, (Builtin.copy_ #[29, 29 ] ty #[.slice (some ⟨w.heap.size, (i + 1), none⟩) (n - i) dc, .slice (some ⟨b, off + i, none⟩) (n - i) sc]).run Tryz.prog W = .ok (goInt (Nat.min (n - i) (n - i))) (W.setCells w.heap.size ((i + 1)) (cs.drop (i))) := fun W hWc hWf ty dc sc =>
    copy_cells_sz W _ _ ty 2 1 w.heap.size ((i + 1)) (n - i) dc ⟨b, off + i, none⟩ (n - i) sc (cs.drop (i)) Tryz.underlying29 hsz (by rw [hdl]; simp only [Nat.min_def]; split <;> omega)
      (fun j v hj => by
        rw [Addr.add_lit, hWc, World.cell?_setCells_out _ _ _ _ _ (fun h _ => absurd h hbN), Nat.add_assoc]
        exact hOb _ v (hcs (i + j) v (by rwa [List.getElem?_drop] at hj)))
      (fun j hj => by rw [hWc]; exact isSome_setCells _ _ _ _ (fun t ht => hN _ (by omega)) _ (hN _ (by omega)))
      (fun j hj => by rw [hWf, World.frozen?_setCells]; exact hNf _) (fun v hv => h1c v (List.mem_of_mem_drop hv))
  subst hW1
  have hE1 : ∀ x, ((w.alloc (.cells ROW 2)).drew).cell? x = (w.drew.alloc (.cells ROW 2)).cell? x := fun x => rfl
  have hE2 : ∀ x, ((w.alloc (.cells ROW 2)).drew).frozen? x = (w.drew.alloc (.cells ROW 2)).frozen? x := fun x => rfl
  have hF1 : ∀ x, (((w.alloc (.cells ROW 2)).drew.setCells w.heap.size (i) vs).drew).cell? x = ((w.drew.alloc (.cells ROW 2)).setCells w.heap.size (i) vs).cell? x := fun x => rfl
  have hF2 : ∀ x, (((w.alloc (.cells ROW 2)).drew.setCells w.heap.size (i) vs).drew).frozen? x = ((w.drew.alloc (.cells ROW 2)).setCells w.heap.size (i) vs).frozen? x := fun x => rfl
  have hw1 : IntKind.i64.wrap ((i : Int) + 1) = (i : Int) + 1 := by rw [IntKind.wrap_i64]; omega
  have hb1 : (0 : Int) ≤ (i : Int) + 1 := by omega
  have hin : i ≤ n := by omega
  have htn : ((i : Int) + 1).toNat = i + 1 := by omega
  have hb3 : (i : Int) ≤ (n : Int) := by omega
  clear hkk hik hold hROW hG hRl
  go_enter Tryz.func76, Tryz.ntmps76
  go_wp2_with (first
    | (at_builtin; refine Lib.wpList_append_run _ rfl _ _ _ _ rfl _ _ rfl rfl _ _ (hrz _) ?_)
    | (at_builtin; refine wpList_copy_runI _ rfl _ _ 29 29 rfl _ _ rfl rfl (hcpA _ hE1 hE2 _ _) ?_)
    | (at_builtin; refine wpList_copy_runI _ rfl _ _ 29 29 rfl _ _ rfl rfl (hcpB _ (fun _ => rfl) (fun _ => rfl) _ _ _) ?_))
  go_region_law_o (refine step_copy_runI rfl _ _ 29 29 rfl (.slice (some ⟨w.heap.size, (i + 1), none⟩) (n - i) (G - (i + 1))) (.slice (some ⟨b, off + i, none⟩) (n - i) (c - i)) (by simp [Act.eval, Act.put]) (by simp [Act.eval, Act.put]) (hcpB _ hF1 hF2 3 (G - (i + 1)) (c - i)) ?_)
  go_wp2
  go_ret
  exact ⟨rfl, rfl⟩
theorem inN_I (w : World) (base : Nat) (A : Option Addr) (c : Nat) (xs : List Int) (own : w.ownsRow base 2 1 (.slice A xs.length c) xs.length (xs.flatMap en1)) (hbase : base ≤ w.heap.size) (i vb : Nat) (hi : i < xs.length) (hln : xs.length ≤ 1073741824) (x : Int) (base2 : Nat)
    (vown : w.ownsRow base2 2 1 (.slice (some ⟨vb, 0, none⟩) (1 : Nat) 1) 1 [.int .i64 x]) (hne : ∀ a, A = some a → vb ≠ a.block) :
    Calls Tryz.prog 76 #[.slice A xs.length c, .int .i64 i, .slice (some ⟨vb, 0, none⟩) (1 : Nat) 1] w fun e w' =>
      ∃ A' c', e = .returned (.slice A' (xs.length + 1) c') ∧ Below base w w' ∧ w'.ownsRow base 2 1 (.slice A' (xs.length + 1) c') (xs.length + 1) ((xs.take i ++ [x] ++ xs.drop i).flatMap en1) ∧ ∀ a, A = some a → w.grownBy w' (some a.block) := by
  obtain ⟨g, cap', hv, hg, hlt⟩ := own.form (by omega)
  injection hv with hv1 hv2 hv3
  subst hv1
  have hne' := hne _ rfl
  obtain ⟨cur, hcur, hcs, hnc, hcm⟩ := own_heap own
  obtain ⟨vcur, hvcur, hvsz, _, _⟩ := own_heap vown
  have hl : (xs.flatMap en1).length = xs.length := by rw [own.1, Nat.mul_one]
  have hcells : ∀ j v, (xs.flatMap en1)[j]? = some v → w.cell? ⟨g, 0 + j, none⟩ = some v := fun j v hj => by
    have := (List.getElem?_eq_some_iff.1 hj).1
    rw [Nat.zero_add, own.cellAt j (by omega)]
    exact hj
  have hvs : ∀ j v, ([.int .i64 x] : List Value)[j]? = some v → w.cell? ⟨vb, 0 + j, none⟩ = some v := fun j v hj => by
    have : j < 1 := (List.getElem?_eq_some_iff.1 hj).1
    rw [Nat.zero_add, vown.cellAt j (by omega)]
    exact hj
  have h1c := oneCell_flat (en := en1) (fun p u hu => by simp [en1] at hu; subst hu; rfl) xs
  have h1v : ∀ v ∈ ([.int .i64 x] : List Value), v.oneCell' = true := by intro u hu; simp at hu; rcases hu with rfl; rfl
  have hT : ((xs.take i).flatMap en1).length = i := by rw [flatMap_len (en := en1) (n := 1) (fun _ => rfl), List.length_take]; omega
  have eT : (xs.flatMap en1).take (i) = (xs.take i).flatMap en1 := by
    conv => lhs; rw [← List.take_append_drop i xs, List.flatMap_append]
    rw [List.take_append_of_le_length (by omega), List.take_of_length_le (by omega)]
  have eD : (xs.flatMap en1).drop (i) = (xs.drop i).flatMap en1 := by
    conv => lhs; rw [← List.take_append_drop i xs, List.flatMap_append]
    rw [List.drop_append_of_le_length (by omega), List.drop_of_length_le (by omega), List.nil_append]
  have eR : (xs.take i ++ [x] ++ xs.drop i).flatMap en1 = (xs.take i).flatMap en1 ++ [.int .i64 x] ++ (xs.drop i).flatMap en1 := by
    rw [List.flatMap_append, List.flatMap_append]
    rfl
  have eX : xs.flatMap en1 = (xs.take i).flatMap en1 ++ (xs.drop i).flatMap en1 := by rw [← List.flatMap_append, List.take_append_drop]
  have hD : ((xs.drop i).flatMap en1).length = (xs.length - i) := by rw [flatMap_len (en := en1) (n := 1) (fun _ => rfl), List.length_drop, Nat.mul_one]
  by_cases hroom : xs.length + 1 ≤ c
  · obtain ⟨S, hS, ownS⟩ := own_more own hroom
    refine (inN_shift g 0 xs.length c i vb (xs.flatMap en1) _ w hi hroom (by unfold maxLen at hcm; omega) hne' hl rfl hcells (fun j hj => ?_) (fun j _ => ownS.frozenAt _) hvs h1c h1v 2 2 vcur.size cur.size ?_ ?_ (by omega) (vown.frozenAt _) (vown.frozenAt _)).mono ?_
    · have h1 := ownS.1
      rw [Nat.zero_add, ownS.cellAt j (by omega), List.getElem?_eq_getElem (by omega)]
      rfl
    · unfold World.shape?
      rw [hvcur]
    · unfold World.shape?
      rw [hcur]
    · rintro e w' ⟨rfl, rfl⟩
      have o1 := own_setCells ((xs.flatMap en1).drop (i)) _ (0 + (i + 1)) _ ownS.drew
      have o2 := own_setCells [.int .i64 x] _ (0 + i) _ o1.1
      have G12 := o1.2.trans o2.2
      have BB := below_own (v := .slice (some ⟨g, 0, none⟩) xs.length c) ((Below.refl base w).drew) own.drew hbase G12
      refine ⟨some ⟨g, 0, none⟩, c, rfl, BB, ?_, fun a ha => by cases ha; exact ⟨G12.os, G12.tape, G12.output, G12.size, G12.block⟩⟩
      have eC : setL (setL (xs.flatMap en1 ++ S) (0 + (i + 1)) ((xs.flatMap en1).drop (i))) (0 + i) [.int .i64 x] = (xs.take i ++ [x] ++ xs.drop i).flatMap en1 := by
        rw [eR, ← inN_list _ _ S _ i rfl hT hS, Nat.zero_add, Nat.zero_add, eD, eX]
      rw [← eC]
      exact o2.1
  · refine (inN_grow g 0 xs.length c i vb (xs.flatMap en1) _ w hi hnc (by omega) (by omega) hl rfl hcells hvs h1c h1v).mono ?_
    rintro e w' ⟨rfl, rfl⟩
    obtain ⟨G, hG⟩ : ∃ G, G = grownCap w (xs.length + 1) c 2 := ⟨_, rfl⟩
    have hGn : xs.length + 1 ≤ G := by rw [hG]; exact grownCap_ge w _ _ _
    have hGm : G ≤ maxLen := by rw [hG]; exact grownCap_le_maxLen w (xs.length + 1) c 2 (by unfold maxLen; omega)
    rw [← hG]
    obtain ⟨ROW, hROW⟩ : ∃ ROW : Array Value, ROW = ((xs.flatMap en1).take (i)).toArray ++ Builtin.zeroCells (Value.int .i64 0).cells (xs.length + 1 - i) ++ Builtin.zeroCells (Value.int .i64 0).cells (G - (xs.length + 1)) := ⟨_, rfl⟩
    rw [← hROW]
    have e1 : ((xs.flatMap en1).take (i)).length = i := by rw [List.length_take, hl]; omega
    have e2 : ∀ k, (Builtin.zeroCells (Value.int .i64 0).cells k).size = k := fun k => by simp [Builtin.zeroCells, Value.cells]
    have hRs : ROW.size = G := by
      rw [hROW, Array.size_append, Array.size_append, List.size_toArray, e1, e2, e2]
      omega
    have hRl : ROW.toList.length = G := by rw [← hRs]; exact Array.length_toList
    have hRt : ROW.toList.take (i) = (xs.take i).flatMap en1 := by
      obtain ⟨Z, hZ⟩ : ∃ Z, ROW.toList = (xs.flatMap en1).take (i) ++ Z := ⟨_, by rw [hROW, Array.toList_append, Array.toList_append, List.append_assoc]⟩
      rw [hZ, List.take_append_of_le_length (by rw [e1]; exact Nat.le_refl _), List.take_of_length_le (by rw [e1]; exact Nat.le_refl _), eT]
    clear hROW hG
    have o0 : (w.alloc (.cells ROW 2)).ownsRow w.heap.size 2 1 (.slice (some ⟨w.heap.size, 0, none⟩) (xs.length + 1) G) (xs.length + 1) (ROW.toList.take ((xs.length + 1))) :=
      ⟨by rw [List.length_take, hRl]; omega, .inr ⟨w.heap.size, G, ROW, rfl, Nat.le_refl _, heap_alloc_new w _, hGn, hGm, by rw [hRs, Nat.mul_one], by rw [Nat.mul_one]⟩⟩
    have o1 := own_setCells [.int .i64 x] _ (i) _ o0.drew
    have o2 := own_setCells ((xs.flatMap en1).drop (i)) _ ((i + 1)) _ o1.1.drew
    have B1 := below_own (v := .slice (some ⟨w.heap.size, 0, none⟩) (xs.length + 1) G) (((Below.refl w.heap.size w).alloc (Nat.le_refl _) (.cells ROW 2)).drew) o0.drew (by simp) o1.2
    have hz := B1.size
    have B2 := below_own (v := .slice (some ⟨w.heap.size, 0, none⟩) (xs.length + 1) G) B1.drew o1.1.drew (by first | assumption | (simp; done)) o2.2
    refine ⟨some ⟨w.heap.size, 0, none⟩, G, rfl, B2.mono hbase, ?_, fun a _ => ⟨B2.os, B2.tape, B2.output, B2.size, fun i hi _ => B2.block i hi⟩⟩
    have eL := inN_list2 (ROW.toList.take ((xs.length + 1))) ((xs.take i).flatMap en1) ((xs.drop i).flatMap en1) [.int .i64 x] i (xs.length) rfl (by rw [List.length_take, hRl]; omega) (by rw [List.take_take, Nat.min_eq_left (by omega)]; exact hRt) hD (by omega)
    rw [eR, ← eL, ← eD]
    exact own_low o2.1 hbase
theorem search_I (g o c : Nat) (gs : List Int) (x : Int) (w : World) (h : SlA en1 1 w (some ⟨g, o, none⟩) gs) (hs : gs.Pairwise (· < ·)) (hl : gs.length ≤ 1048576) :
    Calls Tryz.prog 75 #[.slice (some ⟨g, o, none⟩) gs.length c, .int .i64 x] w fun e w' => ∃ fnd, e = .returned (.tuple #[.int .i64 (cntL gs x : Nat), .bool fnd]) ∧ ∃ m, w' = w.drewN m := by
  have sa := h.small
  refine (AnyG.slices_BinarySearch_int Tryz.searchN g o gs.length c gs x w (Nat.le_refl _) (by omega) (fun j hj => ?_) (by rw [List.take_of_length_le (Nat.le_refl _)]; exact hs.imp (fun h => by omega))).mono ?_
  · obtain ⟨b, q, e, hlt, hc⟩ := en1_cells h (by omega)
    cases e
    rw [List.getD_eq_getElem?_getD, List.getElem?_eq_getElem hj]
    exact hc j _ (List.getElem?_eq_getElem hj)
  · rintro e w' ⟨rfl, hq⟩
    exact ⟨(gs.take gs.length).contains x, by rw [List.take_of_length_le (Nat.le_refl gs.length)]; rfl, hq⟩
set_option maxHeartbeats 1000000 in
set_option maxRecDepth 100000 in
/-- slices.Insert at the list's end. -/
theorem inE_I (w : World) (base : Nat) (A : Option Addr) (c : Nat) (xs : List Int) (own : w.ownsRow base 2 1 (.slice A xs.length c) xs.length (xs.flatMap en1)) (hbase : base ≤ w.heap.size) (vb : Nat) (hln : xs.length ≤ 1048576) (x : Int)
    (hv : w.cell? ⟨vb, 0, none⟩ = some (.int .i64 x)) :
    Calls Tryz.prog 76 #[.slice A xs.length c, .int .i64 xs.length, .slice (some ⟨vb, 0, none⟩) (1 : Nat) 1] w fun e w' =>
      ∃ A' c', e = .returned (.slice A' (xs.length + 1) c') ∧ Below base w w' ∧ w'.ownsRow base 2 1 (.slice A' (xs.length + 1) c') (xs.length + 1) ((xs ++ [x]).flatMap en1) := by
  obtain ⟨hc1, hc2⟩ := own_caps own
  have HO := hid own
  have HV := hid hv
  have HB := hid hbase
  have hFL := hid (flat_one xs x)
  have hnn : (xs.length : Int).toNat = xs.length := Int.toNat_natCast _
  have hne : ¬ ((1 : Int) = 0) := by omega
  have hnil := own_nilcase own
  clear own hv hbase
  rcases hnil with ⟨rfl, rfl⟩ | hA
  · have h0 : xs.length = 0 := by omega
    obtain rfl : xs = [] := List.eq_nil_of_length_eq_zero h0
    clear h0 hc1 hc2
    simp only [List.length_nil]
    go_enter Tryz.func76, Tryz.ntmps76
    go_wp2_with (at_builtin; refine app_many rfl _ _ 29 rfl base 2 (.int .i64 0) 1 8 Tryz.underlying29 (by kernel_rfl) rfl (by decide) _ 0 [] rfl HO.out (some ⟨vb, 0, none⟩) 1 1 [.int .i64 x] rfl ?c1 ?c6 ?c2 ?c3 ?c4 (by decide) HB.out ?_)
    case c1 => rfl
    case c6 => exact fun _ => ⟨vb, 0, rfl, fun j u hu => by
        have : j < 1 := (List.getElem?_eq_some_iff.1 hu).1
        obtain rfl : j = 0 := by omega
        cases hu
        exact HV.out⟩
    case c2 => intro u hu; simp at hu; rcases hu with rfl; rfl
    case c3 => exact fun h => absurd h (by omega)
    case c4 => omega
    intro v1 w1 own1 hg1 hat
    obtain ⟨A1, c1, rfl⟩ := own_slice own1
    have Ho := hid own1
    have Hg := hid hg1
    clear own1 hg1 hat
    go_wp2_with fail
    go_ret
    exact ⟨A1, c1, rfl, (Below.refl base w).grown Hg.out HB.out (fun j hj => by simp [Value.ownBlock] at hj), Ho.out⟩
  · have hcl : xs.length ≤ c := hc1
    by_cases hcc : c = xs.length
    · subst hcc
      go_enter Tryz.func76, Tryz.ntmps76
      go_wp2_with (at_builtin; refine app_many rfl _ _ 29 rfl base 2 (.int .i64 0) 1 8 Tryz.underlying29 (by kernel_rfl) rfl (by decide) _ xs.length (xs.flatMap en1) rfl HO.out (some ⟨vb, 0, none⟩) 1 1 [.int .i64 x] rfl ?c1 ?c6 ?c2 ?c3 ?c4 (by decide) HB.out ?_)
      case c1 => rfl
      case c6 => exact fun _ => ⟨vb, 0, rfl, fun j u hu => by
          have : j < 1 := (List.getElem?_eq_some_iff.1 hu).1
          obtain rfl : j = 0 := by omega
          cases hu
          exact HV.out⟩
      case c2 => intro u hu; simp at hu; rcases hu with rfl; rfl
      case c3 => exact fun h => absurd h (by omega)
      case c4 => omega
      intro v1 w1 own1 hg1 hat
      obtain ⟨A1, c1, rfl⟩ := own_slice own1
      have Ho := hid own1
      have Hg := hid hg1
      clear own1 hg1 hat
      go_wp2_with fail
      go_ret
      refine ⟨A1, c1, rfl, (Below.refl base w).grown Hg.out HB.out (fun j hj => ?_), by rw [hFL.out]; exact Ho.out⟩
      rcases HO.out.2 with ⟨h1, h2⟩ | ⟨g, cap, cur, h1, h2, _⟩
      · injection h1 with h3; subst h3; simp [Value.ownBlock] at hj
      · injection h1 with h3; subst h3; simp [Value.ownBlock] at hj; omega
    · have hcc2 : ¬ (xs.length = c) := fun e => hcc e.symm
      go_enter Tryz.func76, Tryz.ntmps76
      go_wp2_with (at_builtin; refine app_many rfl _ _ 29 rfl base 2 (.int .i64 0) 1 8 Tryz.underlying29 (by kernel_rfl) rfl (by decide) _ xs.length (xs.flatMap en1) rfl HO.out (some ⟨vb, 0, none⟩) 1 1 [.int .i64 x] rfl ?c1 ?c6 ?c2 ?c3 ?c4 (by decide) HB.out ?_)
      case c1 => rfl
      case c6 => exact fun _ => ⟨vb, 0, rfl, fun j u hu => by
          have : j < 1 := (List.getElem?_eq_some_iff.1 hu).1
          obtain rfl : j = 0 := by omega
          cases hu
          exact HV.out⟩
      case c2 => intro u hu; simp at hu; rcases hu with rfl; rfl
      case c3 => exact fun h => absurd h (by omega)
      case c4 => omega
      intro v1 w1 own1 hg1 hat
      obtain ⟨A1, c1, rfl⟩ := own_slice own1
      have Ho := hid own1
      have Hg := hid hg1
      clear own1 hg1 hat
      go_wp2_with fail
      go_ret
      refine ⟨A1, c1, rfl, (Below.refl base w).grown Hg.out HB.out (fun j hj => ?_), by rw [hFL.out]; exact Ho.out⟩
      rcases HO.out.2 with ⟨h1, h2⟩ | ⟨g, cap, cur, h1, h2, _⟩
      · injection h1 with h3; subst h3; simp [Value.ownBlock] at hj
      · injection h1 with h3; subst h3; simp [Value.ownBlock] at hj; omega
theorem inA_I (w : World) (base : Nat) (A : Option Addr) (c : Nat) (xs : List Int) (own : w.ownsRow base 2 1 (.slice A xs.length c) xs.length (xs.flatMap en1)) (hbase : base ≤ w.heap.size) (i vb : Nat) (hi : i ≤ xs.length) (hln : xs.length ≤ 1048576) (x : Int) (base2 : Nat)
    (vown : w.ownsRow base2 2 1 (.slice (some ⟨vb, 0, none⟩) (1 : Nat) 1) 1 [.int .i64 x]) (hne : ∀ a, A = some a → vb ≠ a.block) (m : Nat) (hm : m = xs.length) :
    Calls Tryz.prog 76 #[.slice A m c, .int .i64 i, .slice (some ⟨vb, 0, none⟩) (1 : Nat) 1] w fun e w' =>
      ∃ A' c', e = .returned (.slice A' (m + 1) c') ∧ Below base w w' ∧ w'.ownsRow base 2 1 (.slice A' (m + 1) c') (m + 1) ((xs.take i ++ [x] ++ xs.drop i).flatMap en1) := by
  subst hm
  by_cases h : i < xs.length
  · refine (inN_I w base A c xs own hbase i vb h (by omega) x base2 vown hne).mono ?_
    rintro e w' ⟨A', c', h1, h2, h3, _⟩
    exact ⟨A', c', h1, h2, h3⟩
  · obtain rfl : i = xs.length := by omega
    have hv : w.cell? ⟨vb, 0, none⟩ = some (.int .i64 x) := by rw [vown.cellAt 0 (by omega)]; rfl
    rw [List.take_of_length_le (Nat.le_refl _), List.drop_of_length_le (Nat.le_refl _), List.append_nil]
    exact inE_I w base A c xs own hbase vb hln x hv
set_option maxHeartbeats 1000000 in
set_option maxRecDepth 100000 in
/-- A further gap: the program's. -/
theorem withGap_I (g o c : Nat) (gs : List Int) (x : Int) (w : World) (h : SlA en1 1 w (some ⟨g, o, none⟩) gs) (hs : gs.Pairwise (· < ·)) (hl : gs.length ≤ 1000000) (m : Nat) (hm : m = gs.length) :
    Calls Tryz.prog 53 #[.slice (some ⟨g, o, none⟩) m c, .int .i64 x] w fun e w' => ∃ g' c', e = .returned (.slice (some ⟨g', 0, none⟩) (m + 1) c') ∧ Below w.heap.size w w' ∧ w'.ownsRow w.heap.size 2 1 (.slice (some ⟨g', 0, none⟩) (m + 1) c') (m + 1) ((insN gs x).flatMap en1) := by
  subst hm
  have HSr := hid (search_I g o c gs x w h hs (by omega))
  have HCl := hid (fun q => clone_en1_I (some ⟨g, o, none⟩) c gs (w.drewN q) (h.below (below_drewN (Below.refl _ _) q)) (by simp) (by omega))
  have hcl := cntL_le gs x
  obtain ⟨k, hk⟩ : ∃ k, cntL gs x = k := ⟨_, rfl⟩
  have HIn := hid (show insN gs x = gs.take k ++ [x] ++ gs.drop k by rw [← hk]; rfl)
  rw [hk] at HSr hcl
  clear h hs hk
  go_enter Tryz.func53, Tryz.ntmps53
  go_wp2_with fail
  refine HSr.out.mono ?_
  rintro e w1 ⟨fnd, rfl, q, rfl⟩
  go_wp2_with fail
  refine (HCl.out q).mono ?_
  rintro e w2 ⟨A2, c2, rfl, hb2, own2⟩
  have B2 := hid (below_of (below_drewN (Below.refl w.heap.size w) q) (Nat.le_refl _) hb2)
  have HO2 := hid own2
  have hz := hb2.size
  clear hb2 own2
  go_wp2_with fail
  have b3 : Below w2.heap.size w2 (w2.alloc (.cells #[.int .i64 x] 2)) := (Below.refl _ _).alloc (Nat.le_refl _) _
  have hz2 := B2.out.size
  refine (inA_I (w2.alloc (.cells #[.int .i64 x] 2)) w.heap.size A2 c2 gs (own_step HO2.out b3) (by simp; omega) k w2.heap.size hcl (by omega) x w2.heap.size (World.ownsRow_lit w2 #[.int .i64 x] 1 (Nat.le_refl _) (by simp [maxLen]) (by simp)) (fun a ha => ?_) gs.length rfl).mono ?_
  · rcases HO2.out.2 with ⟨h1, h2⟩ | ⟨g2, cap, cur, h1, h2, h3, _⟩
    · injection h1 with h4; subst h4; cases ha
    · injection h1 with h4; subst h4; cases ha
      have := (Array.getElem?_eq_some_iff.1 h3).1
      dsimp only
      omega
  · rintro e w4 ⟨A4, c4, rfl, hb4, own4⟩
    have B4 := hid ((below_of B2.out hz2 b3).trans hb4)
    have HO4 := hid own4
    clear hb4 own4 b3
    go_wp2_with fail
    go_ret
    rcases HO4.out.2 with ⟨h1, h2⟩ | ⟨g2, cap, cur, h1, h2, h3, _⟩
    · injection h1 with h4 h5; omega
    · injection h1 with h4 h5 h6; subst h4; subst h6
      exact ⟨g2, _, rfl, B4.out, by rw [HIn.out]; exact HO4.out⟩
set_option maxHeartbeats 1000000 in
set_option maxRecDepth 100000 in
theorem with_S (a : Option Addr) (c : Nat) (gs : List Int) (x : Int) (w : World) (h : SlA en1 1 w a gs) (hs : gs.Pairwise (· < ·)) (hn : x ∉ gs) (hl : gs.length ≤ 1000000) (m : Nat) (hm : m = gs.length) :
    Calls Tryz.prog 55 #[.slice a m c, .int .i64 x] w fun e w' => ∃ g' c', e = .returned (.slice (some ⟨g', 0, none⟩) (m + 1) c') ∧ Below w.heap.size w w' ∧ w'.ownsRow w.heap.size 2 1 (.slice (some ⟨g', 0, none⟩) (m + 1) c') (m + 1) ((insN gs x).flatMap en1) := by
  subst hm
  have HC := hid (cnt_lt x gs hs)
  have hcl := cntL_le gs x
  have HN := hid hn
  have HL := hid (insN_len gs x)
  have HA := hid (insR_all (gs := gs) (i := x))
  have HH := hid h
  clear h hs hn
  go_enter Tryz.func55, Tryz.ntmps55
  go_wp2_with fail
  go_loopw [5, 6, 7] (fun o dv kv wr => ∃ (k : Nat) (A : Option Addr) (cc : Nat), k ≤ gs.length ∧ kv = .int .i64 k ∧ dv = .bool (decide (cntL gs x < k)) ∧ o = .slice A (insR gs x k).length cc ∧ wr.ownsRow w.heap.size 2 1 (.slice A (insR gs x k).length cc) (insR gs x k).length ((insR gs x k).flatMap en1) ∧ Below w.heap.size w wr) (fun _ _ kv _ => gs.length - (RowKit.intOf kv).toNat)
  case atStart =>
    have e0 : insR gs x 0 = [] := by unfold insR; rw [if_pos (Nat.zero_le _)]; rfl
    exact ⟨0, _, _, Nat.zero_le _, rfl, rfl, by rw [e0]; rfl, by rw [e0]; exact World.ownsRow_lit w #[] 0 (Nat.le_refl _) (by simp [maxLen]) (by simp), (Below.refl _ _).alloc (Nat.le_refl _) _⟩
  case round =>
    obtain ⟨k, A, cc, hk, rfl, rfl, rfl, own, hbl⟩ := hrel
    have hz := hbl.size
    have HO := hid own
    have HB := hid hbl
    have hRl : (insR gs x k).length ≤ gs.length + 1 := by
      unfold insR
      split
      · rw [List.length_take]; omega
      · rw [List.length_append, List.length_append, List.length_take, List.length_drop, List.length_take]; simp; omega
    by_cases hlt : k < gs.length
    · have hd : decide ((k : Int) < (gs.length : Int)) = true := by rw [decide_eq_true_iff]; omega
      have eg : gs[k]? = some gs[k] := List.getElem?_eq_getElem hlt
      have hst := insR_step (i := x) eg
      have hcg := HC.out k _ eg
      have hne : gs[k] ≠ x := fun e => HN.out (e ▸ List.getElem_mem hlt)
      obtain ⟨b, q, rfl, hb, hc⟩ := en1_cells HH.out (by omega)
      have hcell := cell_on hbl (hc k _ eg)
      generalize gs[k] = g at *
      have hcella := fun o => cell_on ((Below.refl wr.heap.size wr).alloc (Nat.le_refl _) o) hcell
      by_cases hkc : k = cntL gs x
      · have e1 : decide (cntL gs x < k) = false := by rw [decide_eq_false_iff_not]; omega
        have e2 : decide (x < g) = true := by rw [decide_eq_true_iff]; omega
        have e3 : decide (cntL gs x < k + 1) = true := by rw [decide_eq_true_iff]; omega
        rw [if_pos hkc] at hst
        have HST := hid hst
        have HE3 := hid e3
        clear own hbl hc e3 hcg hst hkc
        go_wp2_with (at_builtin; refine app_one (w := wr) 29 2 (.int .i64 0) 1 8 Tryz.underlying29 (by kernel_rfl) rfl (by decide) w.heap.size _ (insR gs x k).length _ HO.out ?d1 (by decide) hz [.int .i64 x] _ _ rfl rfl rfl _ rfl ?d3 rfl (by intro u hu; simp at hu; rcases hu with rfl; rfl) ?_)
        case d1 => omega
        case d3 => rfl
        intro A5 c5 w5 own5 hb5 hg5 hat5
        have hcell5 := (show w5.cell? ⟨b, q + k, none⟩ = some (.int .i64 g) from (hb5.cell (p := ⟨b, q + k, none⟩) hb).trans hcell)
        have HB5 := hid (HB.out.trans hb5)
        have HO5 := hid own5
        have hz5 := HB5.out.size
        clear own5 hb5 hg5 hat5 hcell hcella
        have hcell5a := fun o => cell_on ((Below.refl w5.heap.size w5).alloc (Nat.le_refl _) o) hcell5
        go_wp2_with (at_builtin; refine app_one (w := w5) 29 2 (.int .i64 0) 1 8 Tryz.underlying29 (by kernel_rfl) rfl (by decide) w.heap.size _ ((insR gs x k).length + 1) _ HO5.out ?d5 (by decide) hz5 [.int .i64 g] _ _ rfl rfl rfl _ rfl ?d6 rfl (by intro u hu; simp at hu; rcases hu with rfl; rfl) ?_)
        case d5 => omega
        case d6 => rfl
        intro A6 c6 w6 own6 hb6 hg6 hat6
        have HB6 := hid (HB5.out.trans hb6)
        have HO6 := hid own6
        clear own6 hb6 hg6 hat6 hcell5 hcell5a
        go_wp2_with fail
        have hl2 : (insR gs x (k + 1)).length = (insR gs x k).length + 1 + 1 := by rw [HST.out]; simp
        exact ⟨⟨k + 1, A6, c6, by omega, by go_num, by rw [HE3.out], by rw [hl2], by rw [hl2, HST.out, flat_one, flat_one, List.append_assoc]; exact HO6.out, HB6.out⟩, by simp [RowKit.intOf]; omega⟩
      · by_cases hd2 : cntL gs x < k
        · have e1 : decide (cntL gs x < k) = true := by rw [decide_eq_true_iff]; exact hd2
          have e3 : decide (cntL gs x < k + 1) = true := by rw [decide_eq_true_iff]; omega
          rw [if_neg hkc] at hst
          have HST := hid hst
          have HE3 := hid e3
          clear own hbl hc e3 hcg hst
          go_wp2_with (at_builtin; refine app_one (w := wr) 29 2 (.int .i64 0) 1 8 Tryz.underlying29 (by kernel_rfl) rfl (by decide) w.heap.size _ (insR gs x k).length _ HO.out ?d1 (by decide) hz [.int .i64 g] _ _ rfl rfl rfl _ rfl ?d3 rfl (by intro u hu; simp at hu; rcases hu with rfl; rfl) ?_)
          case d1 => omega
          case d3 => rfl
          intro A6 c6 w6 own6 hb6 hg6 hat6
          have HB6 := hid (HB.out.trans hb6)
          have HO6 := hid own6
          clear own6 hb6 hg6 hat6 hcell hcella
          go_wp2_with fail
          have hl2 : (insR gs x (k + 1)).length = (insR gs x k).length + 1 := by rw [HST.out]; simp
          exact ⟨⟨k + 1, A6, c6, by omega, by go_num, by rw [HE3.out], by rw [hl2], by rw [hl2, HST.out, flat_one]; exact HO6.out, HB6.out⟩, by simp [RowKit.intOf]; omega⟩
        · have e1 : decide (cntL gs x < k) = false := by rw [decide_eq_false_iff_not]; exact hd2
          have e2 : decide (x < g) = false := by rw [decide_eq_false_iff_not]; have := hcg.2 (by omega); omega
          have e3 : decide (cntL gs x < k + 1) = false := by rw [decide_eq_false_iff_not]; omega
          rw [if_neg hkc] at hst
          have HST := hid hst
          have HE3 := hid e3
          clear own hbl hc e3 hcg hst
          go_wp2_with (at_builtin; refine app_one (w := wr) 29 2 (.int .i64 0) 1 8 Tryz.underlying29 (by kernel_rfl) rfl (by decide) w.heap.size _ (insR gs x k).length _ HO.out ?d1 (by decide) hz [.int .i64 g] _ _ rfl rfl rfl _ rfl ?d3 rfl (by intro u hu; simp at hu; rcases hu with rfl; rfl) ?_)
          case d1 => omega
          case d3 => rfl
          intro A6 c6 w6 own6 hb6 hg6 hat6
          have HB6 := hid (HB.out.trans hb6)
          have HO6 := hid own6
          clear own6 hb6 hg6 hat6 hcell hcella
          go_wp2_with fail
          have hl2 : (insR gs x (k + 1)).length = (insR gs x k).length + 1 := by rw [HST.out]; simp
          exact ⟨⟨k + 1, A6, c6, by omega, by go_num, by rw [HE3.out], by rw [hl2], by rw [hl2, HST.out, flat_one]; exact HO6.out, HB6.out⟩, by simp [RowKit.intOf]; omega⟩
    · obtain rfl : k = gs.length := by omega
      have hd : decide ((gs.length : Int) < (gs.length : Int)) = false := by rw [decide_eq_false_iff_not]; omega
      by_cases hkc : gs.length ≤ cntL gs x
      · have e1 : decide (cntL gs x < gs.length) = false := by rw [decide_eq_false_iff_not]; omega
        have ha := HA.out
        rw [if_pos hkc] at ha
        have HA2 := hid ha
        clear own hbl ha
        go_wp2_with (at_builtin; refine app_one (w := wr) 29 2 (.int .i64 0) 1 8 Tryz.underlying29 (by kernel_rfl) rfl (by decide) w.heap.size _ (insR gs x gs.length).length _ HO.out ?d1 (by decide) hz [.int .i64 x] _ _ rfl rfl rfl _ rfl ?d3 rfl (by intro u hu; simp at hu; rcases hu with rfl; rfl) ?_)
        case d1 => omega
        case d3 => rfl
        intro A6 c6 w6 own6 hb6 hg6 hat6
        have HB6 := hid (HB.out.trans hb6)
        have HO6 := hid own6
        have hl2 : (insR gs x gs.length).length + 1 = gs.length + 1 := by rw [← HL.out, ← HA2.out]; simp
        have HL2 := hid hl2
        clear own6 hb6 hg6 hat6 hl2
        go_wp2_with fail
        go_ret
        have ho := HO6.out
        have e9 := HL2.out
        rw [e9] at ho ⊢
        rcases ho.2 with ⟨h1, h2⟩ | ⟨g2, cap, cur, h1, h2, h3, _⟩
        · injection h1 with h4 h5; omega
        · injection h1 with h4 h5 h6
          subst h4
          exact ⟨g2, c6, rfl, HB6.out, by rw [← HA2.out, flat_one]; exact ho⟩
      · have e1 : decide (cntL gs x < gs.length) = true := by rw [decide_eq_true_iff]; omega
        have ha := HA.out
        rw [if_neg hkc, List.append_nil] at ha
        have HA2 := hid ha
        have hl2 : (insR gs x gs.length).length = gs.length + 1 := by rw [← HL.out, ← HA2.out]
        have HL2 := hid hl2
        clear own hbl ha hl2
        go_wp2_with fail
        go_ret
        have ho := HO.out
        have e9 := HL2.out
        rw [e9] at ho ⊢
        rcases ho.2 with ⟨h1, h2⟩ | ⟨g2, cap, cur, h1, h2, h3, _⟩
        · injection h1 with h4 h5; omega
        · injection h1 with h4 h5 h6
          subst h4
          exact ⟨g2, cc, rfl, HB.out, by rw [← HA2.out]; exact ho⟩
theorem gap_nil (n : Nat) : GapOk n [] := ⟨List.Pairwise.nil, fun g hg => absurd hg List.not_mem_nil⟩
theorem has_not {gs : List Int} {i : Nat} (h : hasO gs i = false) : (i : Int) ∉ gs := fun hm => by
  unfold hasO at h
  rw [any_isN.2 hm] at h
  cases h
/-- The best list up to now: none, or one with the further number. -/
def BestV (b0 : Nat) (w : World) (k : Nat) (gs : List Int) (j : Int) (v : Value) : Prop := (j = -1 ∧ v = .slice none 0 0) ∨ ∃ i g c : Nat, j = (i : Int) ∧ v = .slice (some ⟨g, 0, none⟩) k c ∧ w.ownsRow b0 2 1 v k ((insN gs (i : Int)).flatMap en1)
theorem BestV.below {b0 k : Nat} {w w1 : World} {gs : List Int} {j : Int} {v : Value} (h : BestV b0 w k gs j v) (hb : Below w.heap.size w w1) (_ : b0 ≤ w.heap.size) : BestV b0 w1 k gs j v := by
  rcases h with h | ⟨i, g, c, h1, h2, h3⟩
  · exact .inl h
  · exact .inr ⟨i, g, c, h1, h2, own_step h3 hb⟩
set_option maxRecDepth 100000 in
set_option maxHeartbeats 8000000 in
theorem GapsByTurns_S (w : World) (wi hi : Int) (wl : -128 ≤ wi) (wu : wi ≤ 127) (hl : -128 ≤ hi) (hu : hi ≤ 127) (a : Option Addr) (c : Nat) (xs : List Pc) (h : SlA Pc.enc 5 w a xs) (_ : a = none → c = 0) (ok : ∀ p ∈ xs, p.Ok) (hs : xs.length ≤ 1048576) (most : Int) (ml : -9223372036854775808 ≤ most) (mu : most ≤ 9223372036854775807) :
    Calls Tryz.prog 20 #[.agg #[.int .i8 wi, .int .i8 hi, .slice a xs.length c], .int .i64 most] w (ResS en1 1 2 w (GapsByTurnsG wi hi xs most).1 (GapsByTurnsG wi hi xs most).2) := by
  obtain ⟨W0, hW0⟩ : ∃ W, W = w.alloc (.cells #[.int .i8 wi, .int .i8 hi, .slice a xs.length c] 27) := ⟨_, rfl⟩
  have B0 : Below w.heap.size w W0 := by rw [hW0]; exact (Below.refl _ _).alloc (Nat.le_refl _) _
  have hbd : BdA W0 w.heap.size wi hi a xs.length c := by rw [hW0]; exact bd_box _ _ _ _ _ _ _
  have HAs := hid (asked7_S w.heap.size wi hi a c xs W0 ⟨wl, wu, hl, hu⟩ hbd (h.below B0) ok)
  have HB0 := hid B0
  have HBD := hid (fun W (hb : Below W0.heap.size W0 W) => (⟨hbd.below hb hbd.lt, (h.below B0).below hb⟩ : BdA W w.heap.size wi hi a xs.length c ∧ SlA Pc.enc 5 W a xs))
  obtain ⟨v, hv⟩ : ∃ v, builtG wi hi xs = v := ⟨_, rfl⟩
  rw [hv] at HAs
  by_cases hv0 : v = 0
  · subst hv0
    obtain ⟨hB, hn⟩ := built_zero hv
    by_cases hm0 : most < 0
    · have HG := hid (show GapsByTurnsG wi hi xs most = ([], 2) by unfold GapsByTurnsG; rw [if_pos hv, if_pos hm0])
      have hd0 : decide (most < 0) = true := decide_eq_true hm0
      clear B0 hbd h hv hm0
      go_enter Tryz.func20, Tryz.ntmps20
      go_wp2_with fail
      rw [← hW0]
      clear hW0
      refine HAs.out.mono ?_
      rintro e w1 ⟨rfl, hb1⟩
      have HB1 := hid (below_of HB0.out HB0.out.size hb1)
      clear hb1
      go_wp2_with fail
      refine bodyPost_ret (v := .tuple #[.slice (some ⟨w1.heap.size, 0, none⟩) 0 0, .int .i64 2]) (by simp [results, Tryz.results20, go_sem]) rfl ?_
      rw [HG.out]
      exact ⟨some ⟨w1.heap.size, 0, none⟩, 0, rfl, HB1.out.alloc HB1.out.size _, World.ownsRow_lit w1 #[] 0 HB1.out.size (by simp [maxLen]) (by simp)⟩
    · have HG := hid (show GapsByTurnsG wi hi xs most = (gapT xs (stT xs most xs.length 0), 0) by unfold GapsByTurnsG; rw [if_pos hv, if_neg hm0])
      have hd0 : decide (most < 0) = false := decide_eq_false hm0
      have HM0 := hid hm0
      clear B0 hbd h hv hm0
      go_enter Tryz.func20, Tryz.ntmps20
      go_wp2_with fail
      rw [← hW0]
      clear hW0
      refine HAs.out.mono ?_
      rintro e w1 ⟨rfl, hb1⟩
      have HB1 := hid hb1
      have hz0 := HB0.out.size
      have hz1 := hb1.size
      clear hb1
      go_wp2_with fail
      go_loopw [7, 8, 9, 10] (fun o b_ l_ i_ wr => ∃ (m g cc : Nat) (gs : List Int), gapT xs m = gs ∧ gs.length = m ∧ stT xs most (xs.length - m) m = stT xs most xs.length 0 ∧ GapOk xs.length gs ∧ o = .slice (some ⟨g, 0, none⟩) m cc ∧ wr.ownsRow w1.heap.size 2 1 (.slice (some ⟨g, 0, none⟩) m cc) m (gs.flatMap en1) ∧ Below w1.heap.size w1 wr) (fun o _ _ _ _ => xs.length - lenV o)
      case atStart => exact ⟨0, w1.heap.size, 0, [], rfl, rfl, rfl, gap_nil _, rfl, World.ownsRow_lit w1 #[] 0 (Nat.le_refl _) (by simp [maxLen]) (by simp), (Below.refl _ _).alloc (Nat.le_refl _) _⟩
      case round =>
        obtain ⟨m, g, cc, gs, hgT, hgl, hst, hok, rfl, own, hbl⟩ := hrel
        have Ho := hid own
        have HBL := hid hbl
        have hz := hbl.size
        have HBW := hid (below_of HB1.out hz1 hbl)
        have hmn : m ≤ xs.length := by have := hok.len; omega
        have hsr : SlA en1 1 wr (some ⟨g, 0, none⟩) gs := en1_row (c := cc) (by rw [hgl]; exact own)
        have HSR := hid hsr
        have HGT := hid hgT
        have HGL := hid hgl
        have HOK := hid hok
        have HST := hid hst
        have HLe := hid (left_lenT_S w.heap.size wi hi a c xs (some ⟨g, 0, none⟩) cc gs wr hB (by omega) (HBD.out wr HBW.out).1 (HBD.out wr HBW.out).2 hsr m hgl.symm)
        have HLf := hid (left_free (xs := xs) (gs := gs))
        have HGN := hid (fun (h : 0 < leftG xs gs) => gap_next (xs := xs) (gs := gs) hok h (costN xs gs))
        clear own hbl hsr hst hgT
        obtain ⟨L, hL⟩ : ∃ L, leftG xs gs = L := ⟨_, rfl⟩
        have HL := hid hL
        rw [hL] at HLe HGN HLf
        clear hL
        by_cases hlt : most < L
        · have hd : decide (most < L) = true := decide_eq_true hlt
          have HB := hid hB
          clear hgl hok
          go_wp2_with fail
          refine HLe.out.mono ?_
          rintro e V ⟨rfl, hbV⟩
          have BV := hid (below_of HBW.out HBW.out.size hbV)
          have HSV := hid (HSR.out.below hbV)
          have OV := hid (own_step Ho.out hbV)
          have BLV := hid (below_of HBL.out hz hbV)
          have hzV := hbV.size
          clear hbV
          go_wp2_with fail
          go_loopw [8, 9, 10] (fun bv lv iv wr => ∃ i : Nat, i ≤ xs.length ∧ iv = .int .i64 i ∧ bv = .int .i64 (turnB (costN xs gs) (hasO gs) i).1 ∧ lv = .int .i64 (turnB (costN xs gs) (hasO gs) i).2 ∧ Below V.heap.size V wr) (fun _ _ iv _ => xs.length - (intOf iv).toNat)
          case atStart => exact ⟨0, Nat.zero_le _, rfl, rfl, rfl, Below.refl _ _⟩
          case round =>
            obtain ⟨i, hi2, rfl, rfl, rfl, hbl2⟩ := hrel
            have HB2 := hid hbl2
            have hz2 := hbl2.size
            obtain ⟨hbd2, hsl2⟩ := HBD.out wr (below_of BV.out BV.out.size hbl2)
            have c2 := hbd2.c2
            have hsr2 := HSV.out.below hbl2
            by_cases hlt2 : i < xs.length
            · have hd2 : decide ((i : Int) < (xs.length : Int)) = true := by rw [decide_eq_true_iff]; omega
              have Hh := hid (has_len_S (some ⟨g, 0, none⟩) cc gs (i : Int) wr hsr2 m HGL.out.symm)
              rw [show gs.any (isN (i : Int)) = hasO gs i from rfl] at Hh
              have HT := hid (show turnB (costN xs gs) (hasO gs) (i + 1) = if hasO gs i = true then turnB (costN xs gs) (hasO gs) i else if (turnB (costN xs gs) (hasO gs) i).1 < 0 ∨ costN xs gs i < (turnB (costN xs gs) (hasO gs) i).2 then ((i : Int), costN xs gs i) else turnB (costN xs gs) (hasO gs) i from rfl)
              generalize hu : turnB (costN xs gs) (hasO gs) i = u at *
              clear hu
              cases hhas : hasO gs i with
              | true =>
                rw [hhas] at Hh HT
                have HT2 := hid (HT.out.trans (if_pos rfl))
                clear hhas HT hbl2 hsr2 hbd2 hsl2
                go_wp2_with fail
                refine Hh.out.mono ?_
                rintro e w3 ⟨rfl, hb3⟩
                have HB3 := hid (below_of HB2.out hz2 hb3)
                clear hb3
                go_wp2_with fail
                exact ⟨⟨i + 1, by omega, by go_num, by rw [HT2.out], by rw [HT2.out], HB3.out⟩, by simp [intOf]; omega⟩
              | false =>
                have hno := has_not hhas
                rw [hhas] at Hh HT
                have HT2 := hid (HT.out.trans (if_neg (by simp)))
                have HIL := hid (insN_len gs (i : Int))
                have HNO := hid hno
                have HCS := hid (show costN xs gs i = leftG xs (insN gs (i : Int)) from rfl)
                clear hhas HT hbl2 hbd2 hsl2 hsr2 hno
                go_wp2_with fail
                refine Hh.out.mono ?_
                rintro e w3 ⟨rfl, hb3⟩
                have HB3 := hid (below_of HB2.out hz2 hb3)
                have hz3 := HB3.out.size
                have HW3 := hid (with_S (some ⟨g, 0, none⟩) cc gs (i : Int) w3 (HSV.out.below HB3.out) HOK.out.1 HNO.out (by have := HGL.out; omega) m HGL.out.symm)
                clear hb3
                go_wp2_with fail
                refine HW3.out.mono ?_
                rintro e w4 ⟨g4, c4, rfl, hb4, own4⟩
                have HB4 := hid (below_of HB3.out hz3 hb4)
                have hz4 := HB4.out.size
                have HL4 := hid (left_lenT_S w.heap.size wi hi a c xs (some ⟨g4, 0, none⟩) c4 (insN gs (i : Int)) w4 HB.out (by omega) (HBD.out w4 (below_of BV.out BV.out.size HB4.out)).1 (HBD.out w4 (below_of BV.out BV.out.size HB4.out)).2 (en1_row (c := c4) (by rw [HIL.out, HGL.out]; exact own4)) (m + 1) (by rw [HIL.out, HGL.out]))
                clear hb4 own4
                rw [← HCS.out] at HL4
                go_wp2_with fail
                refine HL4.out.mono ?_
                rintro e w8 ⟨rfl, hb8⟩
                have B8 := hid (below_of HB4.out hz4 hb8)
                clear hb8
                generalize costN xs gs i = x at *
                by_cases h1 : u.1 < 0
                · have e1 : decide (u.1 < 0) = true := by rw [decide_eq_true_iff]; exact h1
                  have HSU := hid (HT2.out.trans (if_pos (.inl h1)))
                  clear HT2
                  go_wp2_with fail
                  exact ⟨⟨i + 1, by omega, by go_num, by rw [HSU.out], by rw [HSU.out], B8.out⟩, by simp [intOf]; omega⟩
                · have e1 : decide (u.1 < 0) = false := by rw [decide_eq_false_iff_not]; exact h1
                  by_cases h2 : x < u.2
                  · have e2 : decide (x < u.2) = true := by rw [decide_eq_true_iff]; exact h2
                    have HSU := hid (HT2.out.trans (if_pos (.inr h2)))
                    clear HT2
                    go_wp2_with fail
                    exact ⟨⟨i + 1, by omega, by go_num, by rw [HSU.out], by rw [HSU.out], B8.out⟩, by simp [intOf]; omega⟩
                  · have e2 : decide (x < u.2) = false := by rw [decide_eq_false_iff_not]; omega
                    have HSU := hid (HT2.out.trans (if_neg (fun h => h.elim h1 h2)))
                    clear HT2
                    go_wp2_with fail
                    exact ⟨⟨i + 1, by omega, by go_num, by rw [HSU.out], by rw [HSU.out], B8.out⟩, by simp [intOf]; omega⟩
            · obtain rfl : i = xs.length := by omega
              have hd2 : decide ((xs.length : Int) < (xs.length : Int)) = false := by rw [decide_eq_false_iff_not]; omega
              obtain ⟨j, hj, hjl, hjf, hjok⟩ := HGN.out (by have := HM0.out; omega)
              have HJ := hid hj
              have HJO := hid hjok
              have hnext : gapT xs (m + 1) = insN gs (j : Int) := by rw [← hj, ← HGT.out]; rfl
              have HNX := hid hnext
              have hst2 : stT xs most (xs.length - (m + 1)) (m + 1) = stT xs most xs.length 0 := by
                have := HOK.out.ins hjl hjf
                have h3 := this.len
                rw [insN_len, HGL.out] at h3
                have e : xs.length - m = xs.length - (m + 1) + 1 := by omega
                rw [← HST.out, e, stT_go (by rw [HGT.out, HL.out]; omega)]
              have h3 : m + 1 ≤ xs.length := by
                have h4 := hjok.len
                rw [insN_len, HGL.out] at h4
                exact h4
              have HST2 := hid hst2
              have HW3 := hid (with_S (some ⟨g, 0, none⟩) cc gs (j : Int) wr hsr2 HOK.out.1 (has_not hjf) (by have := HGL.out; omega) m HGL.out.symm)
              rw [hj]
              clear hbl2 hbd2 hsl2 hsr2 hj hjok hnext hst2 hjf
              go_wp2_with fail
              refine HW3.out.mono ?_
              rintro e w4 ⟨g4, c4, rfl, hb4, own4⟩
              have HB4 := hid (below_of BLV.out (by omega) (below_of HB2.out hz2 hb4))
              have HO4 := hid (own_low own4 (by have := HBL.out.size; omega : w1.heap.size ≤ wr.heap.size))
              clear hb4 own4
              go_wp2_with fail
              exact ⟨⟨m + 1, g4, c4, insN gs (j : Int), HNX.out, by rw [insN_len, HGL.out], HST2.out, HJO.out, rfl, HO4.out, HB4.out⟩, by simp [lenV]; omega⟩
        · have hd : decide (most < L) = false := decide_eq_false hlt
          clear hgl hok
          go_wp2_with fail
          refine HLe.out.mono ?_
          rintro e V ⟨rfl, hbV⟩
          have BV := hid (below_of HBW.out HBW.out.size hbV)
          have OV := hid (own_step Ho.out hbV)
          clear hbV
          go_wp2_with fail
          refine bodyPost_ret (v := .tuple #[.slice (some ⟨g, 0, none⟩) m cc, .int .i64 0]) (by simp [results, Tryz.results20, go_sem]) rfl ?_
          have hfin : gapT xs (stT xs most xs.length 0) = gs := by rw [← HST.out, stT_stop (by rw [HGT.out, HL.out]; omega), HGT.out]
          rw [HG.out, hfin]
          refine ⟨some ⟨g, 0, none⟩, cc, by rw [HGL.out], below_of HB0.out hz0 BV.out, ?_⟩
          rw [HGL.out]
          exact own_low OV.out (by omega)
  · have HG := hid (show GapsByTurnsG wi hi xs most = ([], v) by unfold GapsByTurnsG; rw [hv, if_neg hv0])
    have hne : (v != 0) = true := by simpa using hv0
    have heq : (v == 0) = false := by simpa using hv0
    clear B0 hbd h hv hv0
    go_enter Tryz.func20, Tryz.ntmps20
    go_wp2_with fail
    rw [← hW0]
    clear hW0
    refine HAs.out.mono ?_
    rintro e w1 ⟨rfl, hb1⟩
    have HB1 := hid (below_of HB0.out HB0.out.size hb1)
    clear hb1
    go_wp2_with fail
    refine bodyPost_ret (v := .tuple #[.slice (some ⟨w1.heap.size, 0, none⟩) 0 0, .int .i64 v]) (by simp [results, Tryz.results20, go_sem]) rfl ?_
    rw [HG.out]
    exact ⟨some ⟨w1.heap.size, 0, none⟩, 0, rfl, HB1.out.alloc HB1.out.size _, World.ownsRow_lit w1 #[] 0 HB1.out.size (by simp [maxLen]) (by simp)⟩
set_option maxRecDepth 100000 in
set_option maxHeartbeats 8000000 in
theorem GapsByTurns_I (w : World) (wi hi : Int) (wl : -128 ≤ wi) (wu : wi ≤ 127) (hl : -128 ≤ hi) (hu : hi ≤ 127) (a : Option Addr) (c : Nat) (xs : List Pc) (h : SlA Pc.enc 5 w a xs) (_ : a = none → c = 0) (ok : ∀ p ∈ xs, p.Ok) (hs : xs.length ≤ 1048576) (most : Int) (ml : -9223372036854775808 ≤ most) (mu : most ≤ 9223372036854775807) :
    Calls Tryz.prog 19 #[.agg #[.int .i8 wi, .int .i8 hi, .slice a xs.length c], .int .i64 most] w (ResS en1 1 2 w (GapsByTurnsG wi hi xs most).1 (GapsByTurnsG wi hi xs most).2) := by
  obtain ⟨W0, hW0⟩ : ∃ W, W = w.alloc (.cells #[.int .i8 wi, .int .i8 hi, .slice a xs.length c] 27) := ⟨_, rfl⟩
  have B0 : Below w.heap.size w W0 := by rw [hW0]; exact (Below.refl _ _).alloc (Nat.le_refl _) _
  have hbd : BdA W0 w.heap.size wi hi a xs.length c := by rw [hW0]; exact bd_box _ _ _ _ _ _ _
  have d0 : W0.cell? ⟨w.heap.size, 0, none⟩ = some (.int .i8 wi) := hbd.c0
  have d1 : W0.cell? ⟨w.heap.size, 1, none⟩ = some (.int .i8 hi) := hbd.c1
  have d2 : W0.cell? ⟨w.heap.size, 2, none⟩ = some (.slice a xs.length c) := hbd.c2
  have HAs := hid (builtOk_I wi hi a c xs W0 ⟨wl, wu, hl, hu⟩ (h.below B0) ok)
  have HB0 := hid B0
  have HBD := hid (fun W (hb : Below W0.heap.size W0 W) => (⟨hbd.below hb hbd.lt, (h.below B0).below hb⟩ : BdA W w.heap.size wi hi a xs.length c ∧ SlA Pc.enc 5 W a xs))
  obtain ⟨v, hv⟩ : ∃ v, builtG wi hi xs = v := ⟨_, rfl⟩
  rw [hv] at HAs
  by_cases hv0 : v = 0
  · subst hv0
    obtain ⟨hB, hn⟩ := built_zero hv
    by_cases hm0 : most < 0
    · have HG := hid (show GapsByTurnsG wi hi xs most = ([], 2) by unfold GapsByTurnsG; rw [if_pos hv, if_pos hm0])
      have hd0 : decide (most < 0) = true := decide_eq_true hm0
      clear B0 hbd h hv hm0
      go_enter Tryz.func19, Tryz.ntmps19
      go_upto_region 1 with fail
      rw [← hW0]
      clear hW0
      go_wp2_with fail
      refine HAs.out.mono ?_
      rintro e w1 ⟨rfl, hb1⟩
      have HB1 := hid (below_of HB0.out HB0.out.size hb1)
      clear hb1
      go_wp2_with fail
      refine bodyPost_ret (v := .tuple #[.slice none 0 0, .int .i64 2]) (by simp [results, Tryz.results19, go_sem]) rfl ?_
      rw [HG.out]
      exact ⟨none, 0, rfl, HB1.out, World.ownsRow_nil _ _ _ _⟩
    · have HG := hid (show GapsByTurnsG wi hi xs most = (gapT xs (stT xs most xs.length 0), 0) by unfold GapsByTurnsG; rw [if_pos hv, if_neg hm0])
      have hd0 : decide (most < 0) = false := decide_eq_false hm0
      have HM0 := hid hm0
      clear B0 hbd h hv hm0
      go_enter Tryz.func19, Tryz.ntmps19
      go_upto_region 1 with fail
      rw [← hW0]
      clear hW0
      go_wp2_with fail
      refine HAs.out.mono ?_
      rintro e w1 ⟨rfl, hb1⟩
      have HB1 := hid hb1
      have hz0 := HB0.out.size
      have hz1 := hb1.size
      clear hb1 d0 d1 d2
      go_wp2_with fail
      go_loopw [7] (fun o wr => ∃ (m g cc : Nat) (gs : List Int), gapT xs m = gs ∧ gs.length = m ∧ stT xs most (xs.length - m) m = stT xs most xs.length 0 ∧ GapOk xs.length gs ∧ o = .slice (some ⟨g, 0, none⟩) m cc ∧ wr.ownsRow w1.heap.size 2 1 (.slice (some ⟨g, 0, none⟩) m cc) m (gs.flatMap en1) ∧ Below w1.heap.size w1 wr) (fun o _ => xs.length - lenV o)
      case atStart => exact ⟨0, w1.heap.size, 0, [], rfl, rfl, rfl, gap_nil _, rfl, World.ownsRow_lit w1 #[] 0 (Nat.le_refl _) (by simp [maxLen]) (by simp), (Below.refl _ _).alloc (Nat.le_refl _) _⟩
      case round =>
        obtain ⟨m, g, cc, gs, hgT, hgl, hst, hok, rfl, own, hbl⟩ := hrel
        have Ho := hid own
        have HBL := hid hbl
        have hz := hbl.size
        have HBW := hid (below_of HB1.out hz1 hbl)
        have hmn : m ≤ xs.length := by have := hok.len; omega
        have hsr : SlA en1 1 wr (some ⟨g, 0, none⟩) gs := en1_row (c := cc) (by rw [hgl]; exact own)
        have HSR := hid hsr
        have HGT := hid hgT
        have HGL := hid hgl
        have HOK := hid hok
        have HST := hid hst
        have HWo := hid (without_lenT_I w.heap.size wi hi a c xs (some ⟨g, 0, none⟩) cc gs wr hs (HBD.out wr HBW.out).1 (HBD.out wr HBW.out).2 hsr m hgl.symm)
        have HLf := hid (left_free (xs := xs) (gs := gs))
        have HGN := hid (fun (h : 0 < leftG xs gs) => gap_next (xs := xs) (gs := gs) hok h (costN xs gs))
        have HK := hid (hB.part (keep_sub gs xs 0))
        have HLd := hid (show leftG xs gs = costW (keepL gs 0 xs) from rfl)
        clear own hbl hsr hst hgT
        obtain ⟨L, hL⟩ : ∃ L, leftG xs gs = L := ⟨_, rfl⟩
        have HL := hid hL
        rw [hL] at HGN HLf HLd
        clear hL
        have HB := hid hB
        by_cases hlt : most < L
        · have hd : decide (most < L) = true := decide_eq_true hlt
          clear hgl hok
          generalize keepL gs 0 xs = ks at *
          go_wp2_with fail
          refine HWo.out.mono ?_
          rintro e V0 ⟨A0, k0, rfl, hbV0, own0⟩
          have HC0 := hid (worstOf_I wi hi A0 k0 ks V0 HK.out (SlA.of_own Pc.enc_length own0))
          have BV0 := hid hbV0
          have hzV0 := hbV0.size
          clear own0 hbV0
          go_wp2_with fail
          refine HC0.out.mono ?_
          rintro e V ⟨rfl, hbV1⟩
          have hbV := below_of BV0.out hzV0 hbV1
          rw [← HLd.out]
          have BV := hid (below_of HBW.out HBW.out.size hbV)
          have HSV := hid (HSR.out.below hbV)
          have OV := hid (own_step Ho.out hbV)
          have BLV := hid (below_of HBL.out hz hbV)
          have hzV := hbV.size
          have c2V := (HBD.out V BV.out).1.c2
          clear hbV hbV1
          go_wp2_with fail
          clear c2V
          go_loopw [8, 9, 29] (fun bv lv iv wr => ∃ i : Nat, i ≤ xs.length ∧ iv = .int .i64 i ∧ BestV V.heap.size wr (m + 1) gs (turnB (costN xs gs) (hasO gs) i).1 bv ∧ lv = .int .i64 (turnB (costN xs gs) (hasO gs) i).2 ∧ Below V.heap.size V wr) (fun _ _ iv _ => xs.length - (intOf iv).toNat)
          case atStart => exact ⟨0, Nat.zero_le _, rfl, .inl ⟨rfl, rfl⟩, rfl, Below.refl _ _⟩
          case round =>
            obtain ⟨i, hi2, rfl, hbest, rfl, hbl2⟩ := hrel
            have HB2 := hid hbl2
            have hz2 := hbl2.size
            have hsr2 := HSV.out.below hbl2
            have HBE := hid hbest
            clear hbest
            by_cases hlt2 : i < xs.length
            · have hd2 : decide ((i : Int) < (xs.length : Int)) = true := by rw [decide_eq_true_iff]; omega
              have Hh := hid (contains_len2 (some ⟨g, 0, none⟩) cc gs (i : Int) wr hsr2 m HGL.out.symm)
              rw [show gs.any (isN (i : Int)) = hasO gs i from rfl] at Hh
              have HT := hid (show turnB (costN xs gs) (hasO gs) (i + 1) = if hasO gs i = true then turnB (costN xs gs) (hasO gs) i else if (turnB (costN xs gs) (hasO gs) i).1 < 0 ∨ costN xs gs i < (turnB (costN xs gs) (hasO gs) i).2 then ((i : Int), costN xs gs i) else turnB (costN xs gs) (hasO gs) i from rfl)
              generalize hu : turnB (costN xs gs) (hasO gs) i = u at *
              clear hu
              cases hhas : hasO gs i with
              | true =>
                rw [hhas] at Hh HT
                have HT2 := hid (HT.out.trans (if_pos rfl))
                clear hhas HT hbl2 hsr2
                go_wp2_with fail
                refine Hh.out.mono ?_
                rintro e w3 ⟨rfl, hb3⟩
                have HB3 := hid (below_of HB2.out hz2 hb3)
                have BE3 := hid (HBE.out.below hb3 hz2)
                clear hb3
                go_wp2_with fail
                exact ⟨⟨i + 1, by omega, by go_num, by rw [HT2.out]; exact BE3.out, by rw [HT2.out], HB3.out⟩, by simp [intOf]; omega⟩
              | false =>
                have hno := has_not hhas
                rw [hhas] at Hh HT
                have HT2 := hid (HT.out.trans (if_neg (by simp)))
                have HIL := hid (insN_len gs (i : Int))
                have HNO := hid hno
                have HCS := hid (show costN xs gs i = costW (keepL (insN gs (i : Int)) 0 xs) from rfl)
                have HK2 := hid (HB.out.part (keep_sub (insN gs (i : Int)) xs 0))
                clear hhas HT hbl2 hsr2 hno
                go_wp2_with fail
                refine Hh.out.mono ?_
                rintro e w3 ⟨rfl, hb3⟩
                have HB3 := hid (below_of HB2.out hz2 hb3)
                have BE3 := hid (HBE.out.below hb3 hz2)
                have hz3 := HB3.out.size
                have HW3 := hid (withGap_I g 0 cc gs (i : Int) w3 (HSV.out.below HB3.out) HOK.out.1 (by have := HGL.out; omega) m HGL.out.symm)
                clear hb3
                go_wp2_with fail
                refine HW3.out.mono ?_
                rintro e w4 ⟨g4, c4, rfl, hb4, own4⟩
                have HB4 := hid (below_of HB3.out hz3 hb4)
                have BE4 := hid (BE3.out.below hb4 hz3)
                have hz4 := HB4.out.size
                have HWo4 := hid (without_lenT_I w.heap.size wi hi a c xs (some ⟨g4, 0, none⟩) c4 (insN gs (i : Int)) w4 hs (HBD.out w4 (below_of BV.out BV.out.size HB4.out)).1 (HBD.out w4 (below_of BV.out BV.out.size HB4.out)).2 (en1_row (c := c4) (by rw [HIL.out, HGL.out]; exact own4)) (m + 1) (by rw [HIL.out, HGL.out]))
                have HN4 := hid (own_low own4 hz3)
                clear hb4 own4
                generalize keepL (insN gs (i : Int)) 0 xs = ks2 at *
                go_wp2_with fail
                refine HWo4.out.mono ?_
                rintro e w5 ⟨A5, c5, rfl, hb5, own5⟩
                have HC5 := hid (worstOf_I wi hi A5 c5 ks2 w5 HK2.out (SlA.of_own Pc.enc_length own5))
                have HB5 := hid (below_of HB4.out hz4 hb5)
                have BE5 := hid (BE4.out.below hb5 hz4)
                have HN5 := hid (own_step HN4.out hb5)
                have hz5 := HB5.out.size
                clear hb5 own5
                go_wp2_with fail
                refine HC5.out.mono ?_
                rintro e w8 ⟨rfl, hb8⟩
                have B8 := hid (below_of HB5.out hz5 hb8)
                have BE8 := hid (BE5.out.below hb8 hz5)
                have HN8 := hid (own_step HN5.out hb8)
                clear hb8
                rw [← HCS.out]
                generalize costN xs gs i = x at *
                rcases BE8.out with ⟨h1, rfl⟩ | ⟨j, gb, cb, h1, rfl, howb⟩
                · have q41 : ∀ (w : World) (a : Option Addr) (n c n' c' : Nat), (binOp .eql 29 (.slice a n c) (.slice none n' c')).run Tryz.prog w = .ok (.bool a.isNone) w := fun w a n c n' c' => Lib.run_eql_slice_nil w _ _ a n c n' c' Tryz.underlying29
                  have HSU := hid (HT2.out.trans (if_pos (.inl (by omega))))
                  clear HT2 h1
                  go_wp2_with fail
                  exact ⟨⟨i + 1, by omega, by go_num, by rw [HSU.out]; exact .inr ⟨i, g4, c4, rfl, rfl, HN8.out⟩, by rw [HSU.out], B8.out⟩, by simp [intOf]; omega⟩
                · have q41 : ∀ (w : World) (a : Option Addr) (n c n' c' : Nat), (binOp .eql 29 (.slice a n c) (.slice none n' c')).run Tryz.prog w = .ok (.bool a.isNone) w := fun w a n c n' c' => Lib.run_eql_slice_nil w _ _ a n c n' c' Tryz.underlying29
                  have HOB := hid howb
                  have HU1 := hid h1
                  clear howb h1
                  by_cases h2 : x < u.2
                  · have e2 : decide (x < u.2) = true := by rw [decide_eq_true_iff]; exact h2
                    have HSU := hid (HT2.out.trans (if_pos (.inr h2)))
                    clear HT2
                    go_wp2_with fail
                    exact ⟨⟨i + 1, by omega, by go_num, by rw [HSU.out]; exact .inr ⟨i, g4, c4, rfl, rfl, HN8.out⟩, by rw [HSU.out], B8.out⟩, by simp [intOf]; omega⟩
                  · have e2 : decide (x < u.2) = false := by rw [decide_eq_false_iff_not]; omega
                    have HSU := hid (HT2.out.trans (if_neg (fun h => h.elim (fun h => by have := HU1.out; omega) h2)))
                    clear HT2
                    go_wp2_with fail
                    exact ⟨⟨i + 1, by omega, by go_num, by rw [HSU.out]; exact .inr ⟨j, gb, cb, HU1.out, rfl, HOB.out⟩, by rw [HSU.out], B8.out⟩, by simp [intOf]; omega⟩
            · obtain rfl : i = xs.length := by omega
              have hd2 : decide ((xs.length : Int) < (xs.length : Int)) = false := by rw [decide_eq_false_iff_not]; omega
              obtain ⟨j, hj, hjl, hjf, hjok⟩ := HGN.out (by have := HM0.out; omega)
              rcases HBE.out with ⟨h1, rfl⟩ | ⟨j2, gb, cb, h1, rfl, howb⟩
              · exact absurd (hj.symm.trans h1) (by omega)
              · have hjj : j2 = j := by have := hj.symm.trans h1; omega
                subst hjj
                have HJO := hid hjok
                have hnext : gapT xs (m + 1) = insN gs (j2 : Int) := by rw [← hj, ← HGT.out]; rfl
                have HNX := hid hnext
                have hst2 : stT xs most (xs.length - (m + 1)) (m + 1) = stT xs most xs.length 0 := by
                  have := HOK.out.ins hjl hjf
                  have h3 := this.len
                  rw [insN_len, HGL.out] at h3
                  have e : xs.length - m = xs.length - (m + 1) + 1 := by omega
                  rw [← HST.out, e, stT_go (by rw [HGT.out, HL.out]; omega)]
                have h3 : m + 1 ≤ xs.length := by
                  have h4 := hjok.len
                  rw [insN_len, HGL.out] at h4
                  exact h4
                have HST2 := hid hst2
                have HB4 := hid (below_of BLV.out (by omega) HB2.out)
                have HO4 := hid (own_low howb (by have := HBL.out.size; omega : w1.heap.size ≤ V.heap.size))
                clear hbl2 hsr2 hj hjok hnext hst2 hjf h1 howb
                go_wp2_with fail
                exact ⟨⟨m + 1, gb, cb, insN gs (j2 : Int), HNX.out, by rw [insN_len, HGL.out], HST2.out, HJO.out, rfl, HO4.out, HB4.out⟩, by simp [lenV]; omega⟩
        · have hd : decide (most < L) = false := decide_eq_false hlt
          clear hgl hok
          generalize keepL gs 0 xs = ks at *
          go_wp2_with fail
          refine HWo.out.mono ?_
          rintro e V0 ⟨A0, k0, rfl, hbV0, own0⟩
          have HC0 := hid (worstOf_I wi hi A0 k0 ks V0 HK.out (SlA.of_own Pc.enc_length own0))
          have BV0 := hid hbV0
          have hzV0 := hbV0.size
          clear own0 hbV0
          go_wp2_with fail
          refine HC0.out.mono ?_
          rintro e V ⟨rfl, hbV1⟩
          have hbV := below_of BV0.out hzV0 hbV1
          rw [← HLd.out]
          have BV := hid (below_of HBW.out HBW.out.size hbV)
          have OV := hid (own_step Ho.out hbV)
          clear hbV hbV1
          go_wp2_with fail
          refine bodyPost_ret (v := .tuple #[.slice (some ⟨g, 0, none⟩) m cc, .int .i64 0]) (by simp [results, Tryz.results19, go_sem]) rfl ?_
          have hfin : gapT xs (stT xs most xs.length 0) = gs := by rw [← HST.out, stT_stop (by rw [HGT.out, HL.out]; omega), HGT.out]
          rw [HG.out, hfin]
          refine ⟨some ⟨g, 0, none⟩, cc, by rw [HGL.out], below_of HB0.out hz0 BV.out, ?_⟩
          rw [HGL.out]
          exact own_low OV.out (by omega)
  · have HG := hid (show GapsByTurnsG wi hi xs most = ([], v) by unfold GapsByTurnsG; rw [hv, if_neg hv0])
    have hne : (v != 0) = true := by simpa using hv0
    have heq : (v == 0) = false := by simpa using hv0
    clear B0 hbd h hv hv0
    go_enter Tryz.func19, Tryz.ntmps19
    go_upto_region 1 with fail
    rw [← hW0]
    clear hW0
    go_wp2_with fail
    refine HAs.out.mono ?_
    rintro e w1 ⟨rfl, hb1⟩
    have HB1 := hid (below_of HB0.out HB0.out.size hb1)
    clear hb1
    go_wp2_with fail
    refine bodyPost_ret (v := .tuple #[.slice none 0 0, .int .i64 v]) (by simp [results, Tryz.results19, go_sem]) rfl ?_
    rw [HG.out]
    exact ⟨none, 0, rfl, HB1.out, World.ownsRow_nil _ _ _ _⟩
/-- Ascending numbers from a bound on. -/
def IncF (from_ n : Nat) (l : List Int) : Prop := l.Pairwise (· < ·) ∧ ∀ x ∈ l, (from_ : Int) ≤ x ∧ x < n
theorem IncF.nil (a n : Nat) : IncF a n [] := ⟨List.Pairwise.nil, fun x hx => absurd hx List.not_mem_nil⟩
theorem IncF.cons {i a n : Nat} {l : List Int} (ha : a ≤ i) (hi : i < n) (h : IncF (i + 1) n l) : IncF a n ((i : Int) :: l) :=
  ⟨List.pairwise_cons.2 ⟨fun x hx => by have := h.2 x hx; omega, h.1⟩, fun x hx => by
    rcases List.mem_cons.1 hx with rfl | hx
    · omega
    · have := h.2 x hx; omega⟩
theorem IncF.head {a n : Nat} {x : Int} {l : List Int} (h : IncF a n (x :: l)) : ∃ i : Nat, x = (i : Int) ∧ a ≤ i ∧ i < n ∧ IncF (i + 1) n l := by
  have h1 := h.2 x (by simp)
  obtain ⟨h2, h3⟩ := List.pairwise_cons.1 h.1
  refine ⟨x.toNat, by omega, by omega, by omega, h3, fun y hy => ?_⟩
  have := h2 y hy
  have := h.2 y (List.mem_cons_of_mem _ hy)
  omega
theorem IncF.low {a b n : Nat} {l : List Int} (h : IncF a n l) (hb : b ≤ a) : IncF b n l := ⟨h.1, fun x hx => by have := h.2 x hx; omega⟩
/-- What a search of some depth tells. -/
structure LookQ (xs : List Pc) (most : Int) (d : Nat) (gs : List Int) (a t B : Nat) (r : FewR) : Prop where
  code : r.2.1 = 0 ∨ r.2.1 = 6
  found : r.2.1 = 0 → ∃ l, l.length = d ∧ IncF a xs.length l ∧ r.1 = gs ++ l ∧ leftG xs (gs ++ l) ≤ most ∧ t < r.2.2
  none_ : r.2.1 = 6 → ∀ l, l.length = d → IncF a xs.length l → ¬ leftG xs (gs ++ l) ≤ most
  lo : t ≤ r.2.2
  hi : r.2.2 ≤ t + B
theorem look_spec (xs : List Pc) (most : Int) (bud : Nat) : ∀ d gs a t, t + xs.length ^ d ≤ bud → LookQ xs most d gs a t (xs.length ^ d) (lookG xs most bud d gs a t)
  | 0, gs, a, t, ht => by
    unfold lookG leafG
    rw [Nat.pow_zero] at ht
    rw [if_neg (by omega)]
    split
    · rename_i h
      exact ⟨.inl rfl, fun _ => ⟨[], rfl, IncF.nil _ _, by simp, by simpa using h, by show t < t + 1; omega⟩, fun h => absurd (show (0 : Int) = 6 from h) (by decide), by show t ≤ t + 1; omega, by show t + 1 ≤ t + 1; omega⟩
    · rename_i h
      refine ⟨.inr rfl, fun h => absurd (show (6 : Int) = 0 from h) (by decide), fun _ l hl _ => ?_, by show t ≤ t + 1; omega, by show t + 1 ≤ t + 1; omega⟩
      obtain rfl : l = [] := List.length_eq_zero_iff.1 hl
      simpa using h
  | d + 1, gs, a, t, ht => by
    unfold lookG
    have ih := look_spec xs most bud d
    obtain ⟨f, hf⟩ : ∃ f : Nat → Nat → FewR, f = fun (i t : Nat) => lookG xs most bud d (gs ++ [(i : Int)]) (i + 1) t := ⟨_, rfl⟩
    have ihf : ∀ (i t : Nat), t + xs.length ^ d ≤ bud → LookQ xs most d (gs ++ [(i : Int)]) (i + 1) t (xs.length ^ d) (f i t) := fun i t h => by rw [hf]; exact ih _ _ _ h
    rw [← hf]
    clear hf ih
    obtain ⟨P, hP⟩ : ∃ P, xs.length ^ d = P := ⟨_, rfl⟩
    rw [hP] at ihf
    have key : ∀ k i t, k = xs.length - i → t + k * P ≤ bud → LookQ xs most (d + 1) gs i t (k * P) (loopG f k i t) := by
      intro k
      induction k with
      | zero =>
        intro i t hk _
        refine ⟨.inr rfl, fun h => absurd (show (6 : Int) = 0 from h) (by decide), fun _ l hl hi => ?_, Nat.le_refl _, by show t ≤ t + 0 * P; omega⟩
        cases l with
        | nil => simp at hl
        | cons x l =>
          obtain ⟨j, _, h1, h2, _⟩ := hi.head
          omega
      | succ k ihk =>
        intro i t hk hb
        have e : (k + 1) * P = k * P + P := Nat.succ_mul k P
        rw [e] at hb ⊢
        have h1 := ihf i t (by omega)
        rcases h1.code with hc | hc
        · rw [loop_at (by rw [hc]; decide)]
          refine ⟨.inl hc, fun _ => ?_, fun h => absurd (hc.symm.trans h) (by decide), h1.lo, Nat.le_trans h1.hi (by omega)⟩
          obtain ⟨l, hl, hi, hr, hle, hlt⟩ := h1.found hc
          rw [List.append_assoc] at hr hle
          exact ⟨(i : Int) :: l, by rw [List.length_cons, hl], hi.cons (Nat.le_refl _) (by omega), hr, hle, hlt⟩
        · rw [loop_go hc]
          have h3 := h1.hi
          have h4 := h1.lo
          have h2 := ihk (i + 1) (f i t).2.2 (by omega) (by omega)
          have h5 := h2.hi
          have h6 := h2.lo
          refine ⟨h2.code, fun h => ?_, fun h l hl hi => ?_, by omega, by omega⟩
          · obtain ⟨l, hl, hi, hr, hle, hlt⟩ := h2.found h
            exact ⟨l, hl, hi.low (by omega), hr, hle, by omega⟩
          · cases l with
            | nil => simp at hl
            | cons x l =>
              obtain ⟨j, rfl, hj1, hj2, hj3⟩ := hi.head
              by_cases e2 : j = i
              · subst e2
                have := h1.none_ hc l (by simpa using hl) hj3
                rw [List.append_assoc] at this
                exact this
              · exact h2.none_ h _ hl (hj3.cons (by omega) hj2)
    have hpow : xs.length ^ (d + 1) = P * xs.length := by rw [Nat.pow_succ, hP]
    have hk : (xs.length - a) * P ≤ P * xs.length := by rw [Nat.mul_comm]; exact Nat.mul_le_mul_left _ (Nat.sub_le _ _)
    rw [hpow] at ht ⊢
    have h := key (xs.length - a) a t rfl (by omega)
    exact ⟨h.code, h.found, h.none_, h.lo, Nat.le_trans h.hi (by omega)⟩
/-- What the search for at most two gaps tells. -/
structure FewP (xs : List Pc) (most : Int) (r : FewR) : Prop where
  code : r.2.1 = 0 ∨ r.2.1 = 6
  found : r.2.1 = 0 → IncF 0 xs.length r.1 ∧ r.1.length ≤ 2 ∧ leftG xs r.1 ≤ most ∧ 1 ≤ r.2.2 ∧ ∀ l, IncF 0 xs.length l → l.length < r.1.length → ¬ leftG xs l ≤ most
  none_ : r.2.1 = 6 → ∀ l, IncF 0 xs.length l → l.length ≤ 2 → ¬ leftG xs l ≤ most
theorem few_spec {xs : List Pc} (hn : xs.length ≤ 10) (most : Int) : FewP xs most (fewT xs most 300 2) := by
  have hp1 : xs.length ^ 1 ≤ 10 := by rw [Nat.pow_one]; exact hn
  have hp2 : xs.length ^ 2 ≤ 100 := by rw [Nat.pow_two]; exact Nat.mul_le_mul hn hn
  have P0 := look_spec xs most 300 0 [] 0 0 (by rw [Nat.pow_zero]; omega)
  have b0 := P0.hi
  rw [Nat.pow_zero] at b0
  unfold fewT
  obtain ⟨f, hf⟩ : ∃ f : Nat → Nat → FewR, f = fun n t => lookG xs most 300 n [] 0 t := ⟨_, rfl⟩
  have e : ∀ n t, lookG xs most 300 n [] 0 t = f n t := fun n t => by rw [hf]
  rw [← hf]
  rw [e] at P0 b0
  have P1 := fun t (h : t ≤ 1) => look_spec xs most 300 1 [] 0 t (by omega)
  have P2 := fun t (h : t ≤ 11) => look_spec xs most 300 2 [] 0 t (by omega)
  simp only [e] at P1 P2
  clear hf e
  rcases P0.code with h0 | h0
  · rw [loop_at (by rw [h0]; decide)]
    refine ⟨.inl h0, fun _ => ?_, fun h => by rw [h0] at h; cases h⟩
    obtain ⟨l, hl, hi, hr, hle, hlt⟩ := P0.found h0
    rw [List.nil_append] at hr hle
    rw [hr]
    exact ⟨hi, by omega, hle, by omega, fun l' _ h => by omega⟩
  · rw [loop_go h0]
    show FewP xs most (loopG f 2 1 (f 0 0).2.2)
    have P1 := P1 (f 0 0).2.2 (by omega)
    have b1 : (f 1 (f 0 0).2.2).2.2 ≤ (f 0 0).2.2 + xs.length ^ 1 := P1.hi
    have n0 := P0.none_ h0
    rcases P1.code with h1 | h1
    · rw [loop_at (by rw [h1]; decide)]
      refine ⟨.inl h1, fun _ => ?_, fun h => by rw [h1] at h; cases h⟩
      obtain ⟨l, hl, hi, hr, hle, hlt⟩ := P1.found h1
      rw [List.nil_append] at hr hle
      rw [hr]
      refine ⟨hi, by omega, hle, by omega, fun l' hi' h => ?_⟩
      have := n0 l' (by omega) hi'
      rwa [List.nil_append] at this
    · rw [loop_go h1]
      show FewP xs most (loopG f 1 2 (f 1 (f 0 0).2.2).2.2)
      have P2 := P2 (f 1 (f 0 0).2.2).2.2 (by omega)
      have n1 := P1.none_ h1
      rcases P2.code with h2 | h2
      · rw [loop_at (by rw [h2]; decide)]
        refine ⟨.inl h2, fun _ => ?_, fun h => by rw [h2] at h; cases h⟩
        obtain ⟨l, hl, hi, hr, hle, hlt⟩ := P2.found h2
        rw [List.nil_append] at hr hle
        rw [hr]
        refine ⟨hi, by omega, hle, by omega, fun l' hi' h => ?_⟩
        rcases Nat.eq_zero_or_pos l'.length with hz | hz
        · have := n0 l' hz hi'
          rwa [List.nil_append] at this
        · have := n1 l' (by omega) hi'
          rwa [List.nil_append] at this
      · rw [loop_go h2]
        have n2 := P2.none_ h2
        refine ⟨.inr rfl, fun h => absurd (show (6 : Int) = 0 from h) (by decide), fun _ l' hi' h => ?_⟩
        have hc : l'.length = 0 ∨ l'.length = 1 ∨ l'.length = 2 := by omega
        rcases hc with hz | hz | hz
        · have := n0 l' hz hi'
          rwa [List.nil_append] at this
        · have := n1 l' hz hi'
          rwa [List.nil_append] at this
        · have := n2 l' hz hi'
          rwa [List.nil_append] at this
theorem incF_gap {n : Nat} {gs : List Int} : IncF 0 n gs ↔ GapOk n gs := ⟨fun h => ⟨h.1, fun g hg => by have := h.2 g hg; omega⟩, fun h => ⟨h.1, fun g hg => by have := h.2 g hg; omega⟩⟩
theorem gap_full {xs : List Pc} {gs : List Int} (h : GapOk xs.length gs) (hl : gs.length = xs.length) : leftG xs gs ≤ 0 := by
  refine Int.not_lt.1 fun hlt => ?_
  obtain ⟨i, hi, hf⟩ := left_free hlt
  have := (h.ins hi hf).len
  rw [insN_len] at this
  omega
theorem turns_left (xs : List Pc) (most : Int) (h0 : 0 ≤ most) : ∀ (f m : Nat), GapOk xs.length (gapT xs m) → (gapT xs m).length = m → f + m = xs.length → leftG xs (gapT xs (stT xs most f m)) ≤ most
  | 0, m, h, hl, hf => Int.le_trans (gap_full (gs := gapT xs m) h (by omega)) h0
  | f + 1, m, h, hl, hf => by
    by_cases hs : leftG xs (gapT xs m) ≤ most
    · rw [stT_stop hs]; exact hs
    · rw [stT_go hs]
      obtain ⟨i, hi, hlt, hf2, hok⟩ := gap_next h (by omega) (costN xs (gapT xs m))
      have e : gapT xs (m + 1) = insN (gapT xs m) (i : Int) := by rw [show gapT xs (m + 1) = insN (gapT xs m) (turnB (costN xs (gapT xs m)) (hasO (gapT xs m)) xs.length).1 from rfl, hi]
      exact turns_left xs most h0 f (m + 1) (by rw [e]; exact hok) (by rw [e, insN_len, hl]) (by omega)
theorem gap_at {n : Nat} {gs : List Int} (h : GapOk n gs) : gapsB n gs = true := by
  refine gapsB_true fun j hj => ?_
  have e : gs[j]? = some gs[j] := List.getElem?_eq_getElem hj
  have h1 := h.2 gs[j] (List.getElem_mem hj)
  have h2 : ∀ k (hk : k < gs.length), k < j → gs[k] < gs[j] := fun k hk hkj => List.pairwise_iff_getElem.1 h.1 k j hk hj hkj
  unfold gapAt
  rw [e]
  dsimp only
  rw [Bool.and_eq_true]
  refine ⟨inB_iff.2 (by omega), ?_⟩
  cases j with
  | zero => rfl
  | succ j =>
    have := h2 j (by omega) (by omega)
    have e2 : gs.getD j 0 = gs[j] := by rw [List.getD_eq_getElem?_getD, List.getElem?_eq_getElem (by omega)]; rfl
    dsimp only
    rw [decide_eq_true_iff, e2]
    exact this
theorem less_sub {gs : List Int} (i : Nat) : (lessG gs i).Sublist gs := by
  unfold lessG
  have h1 : (gs.drop (i + 1)).Sublist (gs.drop i) := by
    rw [← List.drop_drop]
    exact List.drop_sublist 1 (gs.drop i)
  have := (List.Sublist.refl (gs.take i)).append h1
  rwa [List.take_append_drop] at this
theorem less_ok {n : Nat} {gs : List Int} (h : GapOk n gs) (i : Nat) : GapOk n (lessG gs i) :=
  ⟨h.1.sublist (less_sub i), fun g hg => h.2 g ((less_sub i).subset hg)⟩
theorem first_none {p : Nat → Bool} : ∀ {k : Nat}, (∀ i, i < k → p i = false) → firstOk p k = none
  | 0, _ => rfl
  | k + 1, h => firstOk_next (first_none fun i hi => h i (by omega)) (h k (by omega))
theorem first_some {p : Nat → Bool} : ∀ {k i : Nat}, firstOk p k = some i → i < k ∧ p i = true
  | 0, i, h => by cases h
  | k + 1, i, h => by
    unfold firstOk at h
    cases hk : firstOk p k with
    | some j =>
      rw [hk] at h
      injection h with h
      subst h
      have := first_some hk
      exact ⟨by omega, this.2⟩
    | none =>
      rw [hk] at h
      dsimp only at h
      split at h
      · injection h with h
        subst h
        rename_i hp
        exact ⟨by omega, hp⟩
      · cases h
theorem keep_some (gs : List Int) : ∀ (l : List Pc) (i : Nat), (keepL gs i l).length + (someL gs i l).length = l.length
  | [], _ => rfl
  | p :: l, i => by
    have ih := keep_some gs l (i + 1)
    unfold keepL someL
    split
    · rw [List.length_cons, List.length_cons]; omega
    · rw [List.length_cons, List.length_cons]; omega
theorem keep_card {xs : List Pc} {gs : List Int} (h : GapOk xs.length gs) : (keepL gs 0 xs).length + gs.length = xs.length := by
  have h1 := keep_some gs xs 0
  have h2 : (someL gs 0 xs).length = gs.length := by rw [← (only_perm (h.1.imp (fun h => by omega)) h.2).length_eq, only_len h.2]
  omega
/-- Without one of its numbers. -/
theorem less_filter {gs : List Int} (h : gs.Pairwise (· < ·)) {i : Nat} (hi : i < gs.length) : gs.filter (fun g => g != gs.getD i 0) = lessG gs i := by
  have e : gs.getD i 0 = gs[i] := by rw [List.getD_eq_getElem?_getD, List.getElem?_eq_getElem hi]; rfl
  rw [e]
  have hs : gs = gs.take i ++ gs[i] :: gs.drop (i + 1) := by
    rw [← List.drop_eq_getElem_cons hi, List.take_append_drop]
  obtain ⟨x, hx⟩ : ∃ x, gs[i] = x := ⟨_, rfl⟩
  rw [hx] at hs ⊢
  unfold lessG
  obtain ⟨a, ha⟩ : ∃ a, gs.take i = a := ⟨_, rfl⟩
  obtain ⟨b, hb⟩ : ∃ b, gs.drop (i + 1) = b := ⟨_, rfl⟩
  rw [ha, hb] at hs ⊢
  rw [hs, List.pairwise_append, List.pairwise_cons] at h
  obtain ⟨_, ⟨h1, _⟩, h2⟩ := h
  rw [hs, List.filter_append, List.filter_cons, if_neg (by simp)]
  rw [List.filter_eq_self.2 (fun y hy => by have := h2 y hy x (by simp); simp; omega), List.filter_eq_self.2 (fun y hy => by have := h1 y hy; simp; omega)]
theorem eqlM_Ce (d : Nat) (x y z v : Int) (w : World) : (Op.equalIn (d + 2) 74 (.agg #[.int .i8 x, .int .i8 y]) (.agg #[.int .i8 z, .int .i8 v])).run Tryz.prog w = .ok (decide (x = z ∧ y = v)) w := by
  have hsome : (Tryz.prog.info? 24).isSome = true := by kernel_rfl
  obtain ⟨i, hi⟩ := Option.isSome_iff_exists.1 hsome
  clear hsome
  have hc : Tryz.prog.cellsOf 24 = 1 := by kernel_rfl
  have hv := Tryz.underlying24
  have hu := Tryz.underlying74
  rw [run_equalIn_array (P := Tryz.prog) (w := w) (d + 1) _ _ hu hi, show List.range 2 = [0, 1] from rfl]
  simp [go_sem, Op.eqItems, hc, part, hv]
  by_cases h1 : x = z <;> by_cases h2 : y = v <;> simp [h1, h2]
theorem eql_Pc (p : Pc) (w : World) : (Op.equalIn 10000 76 (.agg p.enc.toArray) (.agg p.enc.toArray)).run Tryz.prog w = .ok true w := by
  obtain ⟨x_, y_, k_, t_, d_⟩ := p
  have h2 : Tryz.prog.stoodInHeld 76 = false := by kernel_rfl
  have hc := eqlM_Ce 9997 x_ y_ x_ y_
  have hcell : Tryz.prog.cellsOf 74 = 2 := by kernel_rfl
  simp only [Pc.enc]
  rw [run_equalIn_struct (P := Tryz.prog) w 9999 76 _ _ (by kernel_rfl) h2]
  simp [go_sem, Op.eqFields, Program.fieldsOf, Tryz.underlying76, part, hc, hcell]
set_option maxRecDepth 100000 in
set_option maxHeartbeats 2000000 in
theorem same1_S (b b' : Nat) (wi hi : Int) (A A' : Option Addr) (c c' : Nat) (xs : List Pc) (w : World) (hb : BdA w b wi hi A xs.length c) (hb' : BdA w b' wi hi A' xs.length c') (h : SlA Pc.enc 5 w A xs) (h2 : SlA Pc.enc 5 w A' xs) :
    Calls Tryz.prog 60 #[.pointer (some ⟨b, 0, none⟩), .pointer (some ⟨b', 0, none⟩)] w fun e w' => e = .returned (.bool true) ∧ Below w.heap.size w w' := by
  have sa := h.small
  have HW := hid (fun W (hw : Below w.heap.size w W) => (⟨h.below hw, h2.below hw, (hb.below hw hb.lt).c2, (hb'.below hw hb'.lt).c2⟩ : SlA Pc.enc 5 W A xs ∧ SlA Pc.enc 5 W A' xs ∧ W.cell? ⟨b, 2, none⟩ = some (.slice A xs.length c) ∧ W.cell? ⟨b', 2, none⟩ = some (.slice A' xs.length c')))
  obtain ⟨-, g0, g1, g2⟩ := hb
  obtain ⟨-, j0, j1, j2⟩ := hb'
  clear h h2
  have e1 : (wi != wi) = false := by simp
  have e2 : (hi != hi) = false := by simp
  have e3 : ((xs.length : Int) != (xs.length : Int)) = false := by simp
  have e4 : (xs.length != xs.length) = false := by simp
  go_enter Tryz.func60, Tryz.ntmps60
  go_wp2_with fail
  go_region
  clear g0 g1 g2 j0 j1 j2
  go_wp2_with fail
  go_loopw [5] (fun i wr => ∃ k : Nat, k ≤ xs.length ∧ i = .int .i64 k ∧ Below w.heap.size w wr) (fun i _ => xs.length - (intOf i).toNat)
  case atStart => exact ⟨0, Nat.zero_le _, rfl, (Below.refl _ _).drew⟩
  case round =>
    obtain ⟨k, hk, rfl, hbl⟩ := hrel
    have HB := hid hbl
    obtain ⟨h, h2, g2, j2⟩ := HW.out wr hbl
    by_cases hlt : k < xs.length
    · obtain ⟨b1, o1, rfl, hb1, hc1⟩ := h.cells (by omega)
      obtain ⟨b2, o2, rfl, hb2, hc2⟩ := h2.cells (by omega)
      have ex : xs[k]? = some xs[k] := List.getElem?_eq_getElem hlt
      generalize xs[k] = p at *
      have f0 : wr.cell? ⟨b1, o1 + k * 5, none⟩ = some (.int .i8 p.x) := hc1 k p ex 0 _ rfl
      have f1 : wr.cell? ⟨b1, o1 + k * 5 + 1, none⟩ = some (.int .i8 p.y) := hc1 k p ex 1 _ rfl
      have f2 : wr.cell? ⟨b1, o1 + k * 5 + 2, none⟩ = some (.int .i8 p.k) := hc1 k p ex 2 _ rfl
      have f3 : wr.cell? ⟨b1, o1 + k * 5 + 3, none⟩ = some (.int .i8 p.t) := hc1 k p ex 3 _ rfl
      have f4 : wr.cell? ⟨b1, o1 + k * 5 + 4, none⟩ = some (.int .i8 p.d) := hc1 k p ex 4 _ rfl
      have r0 : wr.cell? ⟨b2, o2 + k * 5, none⟩ = some (.int .i8 p.x) := hc2 k p ex 0 _ rfl
      have r1 : wr.cell? ⟨b2, o2 + k * 5 + 1, none⟩ = some (.int .i8 p.y) := hc2 k p ex 1 _ rfl
      have r2 : wr.cell? ⟨b2, o2 + k * 5 + 2, none⟩ = some (.int .i8 p.k) := hc2 k p ex 2 _ rfl
      have r3 : wr.cell? ⟨b2, o2 + k * 5 + 3, none⟩ = some (.int .i8 p.t) := hc2 k p ex 3 _ rfl
      have r4 : wr.cell? ⟨b2, o2 + k * 5 + 4, none⟩ = some (.int .i8 p.d) := hc2 k p ex 4 _ rfl
      have hd : decide ((k : Int) < (xs.length : Int)) = true := by rw [decide_eq_true_iff]; omega
      have heq := fun W => eql_Pc p W
      simp only [Pc.enc] at heq
      clear hc1 hc2 h h2 hbl ex
      go_wp2_with fail
      go_region
      go_wp2_with fail
      exact ⟨⟨k + 1, by omega, by go_num, HB.out.drew⟩, by simp [intOf]; omega⟩
    · obtain rfl : k = xs.length := by omega
      have hd : decide ((xs.length : Int) < (xs.length : Int)) = false := by rw [decide_eq_false_iff_not]; omega
      clear h h2 hbl
      go_wp2_with fail
      go_ret
      exact ⟨rfl, HB.out⟩
theorem sameBd_S (n m : Nat) (wi hi : Int) (A A' : Option Addr) (c c' : Nat) (xs : List Pc) (w : World) (h : SlA Pc.enc 5 w A xs) (h2 : SlA Pc.enc 5 w A' xs) (hn : n = xs.length) (hm : m = xs.length) :
    Calls Tryz.prog 26 #[.agg #[.int .i8 wi, .int .i8 hi, .slice A n c], .agg #[.int .i8 wi, .int .i8 hi, .slice A' m c']] w fun e w' => e = .returned (.bool true) ∧ Below w.heap.size w w' := by
  subst hn hm
  obtain ⟨W1, hW1⟩ : ∃ W1, W1 = w.alloc (.cells #[.int .i8 wi, .int .i8 hi, .slice A xs.length c] 27) := ⟨_, rfl⟩
  have B1 : Below w.heap.size w W1 := by rw [hW1]; exact (Below.refl _ _).alloc (Nat.le_refl _) _
  have bd1 : BdA W1 w.heap.size wi hi A xs.length c := by rw [hW1]; exact bd_box _ _ _ _ _ _ _
  obtain ⟨W2, hW2⟩ : ∃ W2, W2 = W1.alloc (.cells #[.int .i8 wi, .int .i8 hi, .slice A' xs.length c'] 27) := ⟨_, rfl⟩
  have B2 : Below W1.heap.size W1 W2 := by rw [hW2]; exact (Below.refl _ _).alloc (Nat.le_refl _) _
  have bd2 : BdA W2 W1.heap.size wi hi A' xs.length c' := by rw [hW2]; exact bd_box _ _ _ _ _ _ _
  have HC := hid (same1_S w.heap.size W1.heap.size wi hi A A' c c' xs W2 (bd1.below B2 bd1.lt) bd2 ((h.below B1).below B2) ((h2.below B1).below B2))
  have HB := hid (below_of B1 B1.size B2)
  have hs1 : W1.heap.size = w.heap.size + 1 := by rw [hW1]; simp
  rw [hs1] at HC
  rw [hW1] at hW2
  clear B1 bd1 B2 bd2 h h2 hs1 hW1
  go_enter Tryz.func26, Tryz.ntmps26
  go_wp2_with fail
  rw [← hW2]
  clear hW2
  refine HC.out.mono ?_
  rintro e w1 ⟨rfl, hb⟩
  have HB1 := hid (below_of HB.out HB.out.size hb)
  clear hb
  go_wp2_with fail
  go_ret
  exact ⟨rfl, HB1.out⟩
theorem at_L (a : Option Addr) (c : Nat) (bs : List Int) (w : World) (h : BytA w a bs) (hl : bs.length ≤ 1000000) :
    Calls Tryz.prog 16 #[.slice a bs.length c, .int .i64 0, .int .i64 6] w fun e w' => ∃ r : Int, e = .returned (.int .i64 r) ∧ (0 ≤ r ∧ r ≤ 5) ∧ w = w' := by
  by_cases hz : 0 < bs.length
  · have e1 : bs[0]? = some bs[0] := List.getElem?_eq_getElem hz
    obtain ⟨x, hx⟩ : ∃ x, bs[0] = x := ⟨_, rfl⟩
    rw [hx] at e1
    have hr := h.rng x (List.mem_of_getElem? e1)
    obtain ⟨cb, co, rfl, hc⟩ := h.code 0 x e1
    have f0 : w.cell? ⟨cb, co, none⟩ = some (.int .u8 x) := by simpa using hc
    have wx : IntKind.i64.wrap x = x := IntWalk.i64_in _ (by omega)
    have d1 : decide ((bs.length : Int) ≤ 0) = false := by rw [decide_eq_false_iff_not]; omega
    have d2 : decide ((0 : Int) < (bs.length : Int)) = true := by rw [decide_eq_true_iff]; omega
    have d3 : (0 : Int) < (bs.length : Int) := by omega
    have d4 : ¬ bs = [] := by intro h; rw [h] at hz; simp at hz
    have hm : x.tmod 6 = x % 6 := Int.tmod_eq_emod_of_nonneg hr.1
    have hm2 : 0 ≤ x % 6 ∧ x % 6 ≤ 5 := by omega
    have wm : IntKind.i64.wrap (x % 6) = x % 6 := IntWalk.i64_in _ (by omega)
    have HM := hid hm2
    clear hc h hx e1 hm2
    go_enter Tryz.func16, Tryz.ntmps16
    go_wp2_with fail
    go_ret
    exact ⟨x % 6, rfl, HM.out, rfl⟩
  · have d0 : bs.length = 0 := by omega
    obtain rfl : bs = [] := List.length_eq_zero_iff.1 d0
    clear h
    go_enter Tryz.func16, Tryz.ntmps16
    go_wp2_with fail
    go_ret
    exact ⟨0, rfl, by omega, rfl⟩
theorem asc_add {gs : List Int} {i : Nat} (h : gs.Pairwise (· < ·) ∧ ∀ g ∈ gs, 0 ≤ g ∧ g < (i : Int)) : (gs ++ [(i : Int)]).Pairwise (· < ·) ∧ ∀ g ∈ gs ++ [(i : Int)], 0 ≤ g ∧ g < ((i + 1 : Nat) : Int) := by
  refine ⟨?_, fun g hg => ?_⟩
  · rw [List.pairwise_append]
    refine ⟨h.1, List.pairwise_singleton _ _, fun a ha b hb => ?_⟩
    rw [List.mem_singleton] at hb
    have := h.2 a ha
    omega
  · rcases List.mem_append.1 hg with h1 | h1
    · have := h.2 g h1
      omega
    · rw [List.mem_singleton] at h1
      omega
set_option maxRecDepth 100000 in
set_option maxHeartbeats 8000000 in
theorem gapsD_S (W : World) (a : Option Addr) (bs : List Int) (c : Nat) (hA : BytA W a bs) (hbl : bs.length ≤ 1000000) (wi hi : Int) (A0 : Option Addr) (m c0 : Nat) (hm : m ≤ 40) :
    Calls Tryz.prog 23 #[.slice a bs.length c, .agg #[.int .i8 wi, .int .i8 hi, .slice A0 m c0]] W fun e w' => ∃ (gs : List Int) (A : Option Addr) (cc : Nat), e = .returned (.slice A gs.length cc) ∧ (gs.Pairwise (· < ·) ∧ ∀ g ∈ gs, 0 ≤ g ∧ g < (m : Int)) ∧ Below W.heap.size W w' ∧ w'.ownsRow W.heap.size 2 1 (.slice A gs.length cc) gs.length (gs.flatMap en1) := by
  obtain ⟨W1, hW1⟩ : ∃ W1, W1 = W.alloc (.cells #[.int .i8 wi, .int .i8 hi, .slice A0 m c0] 27) := ⟨_, rfl⟩
  have hB1 : Below W.heap.size W W1 := by rw [hW1]; exact (Below.refl _ _).alloc (Nat.le_refl _) _
  have k1 : W1.cell? ⟨W.heap.size, 2, none⟩ = some (.slice A0 m c0) := by rw [hW1]; simp [go_sem]
  have hz1 : W.heap.size + 1 ≤ W1.heap.size := by rw [hW1]; simp
  have hA1 := hA.keep hB1
  obtain ⟨W2, hW2⟩ : ∃ W2, W2 = W1.alloc (.cells #[.slice a bs.length c, .int .i64 0, .int .u64 0] 80) := ⟨_, rfl⟩
  have hB2 : Below W1.heap.size W1 W2 := by rw [hW2]; exact (Below.refl _ _).alloc (Nat.le_refl _) _
  have hS2 : SrcA W2 W1.heap.size a bs c 0 := by rw [hW2]; exact src_new W1 a bs c _ hA1.rng hA1.code
  have k2 : W2.cell? ⟨W.heap.size, 2, none⟩ = some (.slice A0 m c0) := cell_on hB2 k1
  have hz2 : W1.heap.size + 1 ≤ W2.heap.size := by rw [hW2]; simp
  have hz3 : W2.heap.size ≤ W1.heap.size + 1 := by rw [hW2]; simp
  have HB2 := hid (below_of hB1 hB1.size hB2)
  have HS2 := hid hS2
  have HK2 := hid k2
  clear hB1 hA hA1 hB2 hS2 k1 k2
  go_enter Tryz.func23, Tryz.ntmps23
  go_upto_region 1 with fail
  rw [← hW1]
  clear hW1
  go_wp2_with fail
  refine (srcFrom_S a bs.length c W1).mono ?_
  rintro e w2 ⟨rfl, rfl⟩
  rw [← hW2]
  clear hW2
  obtain ⟨sb, hsb⟩ : ∃ sb, W1.heap.size = sb := ⟨_, rfl⟩
  rw [hsb] at HS2 hz2 hz1 hz3
  rw [hsb]
  clear hsb
  go_wp2_with fail
  go_loopw [6, 7] (fun o iv wr => ∃ (i tt n : Nat) (gs : List Int) (A : Option Addr) (cc : Nat), i ≤ m ∧ iv = .int .i64 i ∧ o = .slice A n cc ∧ n = gs.length ∧ n ≤ i ∧ (gs.Pairwise (· < ·) ∧ ∀ g ∈ gs, 0 ≤ g ∧ g < (i : Int)) ∧ wr.ownsRow (sb + 1) 2 1 (.slice A n cc) n (gs.flatMap en1) ∧ SrcA wr sb a bs c tt ∧ tt ≤ i ∧ Fr sb 1 W2 wr ∧ wr.cell? ⟨W.heap.size, 2, none⟩ = some (.slice A0 m c0)) (fun _ iv _ => m - (intOf iv).toNat)
  case atStart => exact ⟨0, 0, 0, [], _, _, Nat.zero_le _, rfl, rfl, rfl, Nat.le_refl _, ⟨List.Pairwise.nil, fun g hg => absurd hg List.not_mem_nil⟩, by simpa using World.ownsRow_lit W2 #[] 0 (show sb + 1 ≤ W2.heap.size from hz2) (by simp [maxLen]) (by simp), HS2.out.keep ((Below.refl _ _).alloc (by omega) _), Nat.le_refl _, Fr.of_below ((Below.refl _ _).alloc (Nat.le_refl _) _), cell_on ((Below.refl W2.heap.size W2).alloc (Nat.le_refl _) _) HK2.out⟩
  case round =>
    obtain ⟨i, tt, n, gs, A, cc, hi', rfl, rfl, hng, hni, hord, own, hS, htt, hF, b2⟩ := hrel
    have HOrd := hid hord
    have HOw := hid own
    have HF := hid hF
    have HNg := hid hng
    by_cases hlt : i < m
    · have hd : decide ((i : Int) < (m : Int)) = true := by rw [decide_eq_true_iff]; omega
      have hwi : IntKind.i64.wrap ((i : Int) + 1) = (i : Int) + 1 := IntWalk.i64_in _ (by omega)
      have HP := hid (one_S wr sb a bs c tt 4 (by omega) hS (by omega) hbl)
      have HK := hid b2
      clear hord own hS hF hng
      go_wp2_with fail
      refine HP.out.mono ?_
      rintro e v1 ⟨r, t1, rfl, ht1, hS1, hF1⟩
      have HS1 := hid hS1
      have HF1 := hid (HF.out.trans hF1)
      have HO1 := hid (hF1.ownB (by omega) HOw.out)
      have HK1 := hid (hF1.cellD (.inl (by show W.heap.size < sb; omega)) HK.out)
      have hz4 := HF1.out.size
      have hzv : sb + 1 ≤ v1.heap.size := by omega
      clear hS1 hF1 b2
      cases r with
      | false =>
        go_wp2_with fail
        exact ⟨⟨i + 1, t1, n, gs, A, cc, by omega, by go_num, rfl, HNg.out, by omega, ⟨HOrd.out.1, fun g hg => by have := HOrd.out.2 g hg; omega⟩, HO1.out, HS1.out, by omega, HF1.out, HK1.out⟩, by simp [intOf]; omega⟩
      | true =>
        go_wp2_with (at_builtin; refine app_one (w := v1) 29 2 (.int .i64 0) 1 8 Tryz.underlying29 (by kernel_rfl) rfl (by decide) (sb + 1) _ n _ HO1.out ?d1 (by decide) hzv [.int .i64 (i : Int)] _ _ rfl rfl rfl _ rfl ?d3 rfl (by intro u hu; simp at hu; rcases hu with rfl; rfl) ?_)
        case d1 => omega
        case d3 => rfl
        intro A5 c5 w5 own5 hb5 hg5 hat5
        have e5 : gs.flatMap en1 ++ [.int .i64 (i : Int)] = (gs ++ [(i : Int)]).flatMap en1 := by rw [List.flatMap_append]; rfl
        rw [e5] at own5
        have HO5 := hid own5
        have HB5 := hid hb5
        clear own5 hb5 hg5 hat5 e5
        go_wp2_with fail
        exact ⟨⟨i + 1, t1, n + 1, gs ++ [(i : Int)], A5, c5, by omega, by go_num, by go_num, by rw [List.length_append, HNg.out]; rfl, by omega, asc_add HOrd.out, HO5.out, HS1.out.keep HB5.out, by omega, HF1.out.low HB5.out (by omega), (HB5.out.cell (p := ⟨W.heap.size, 2, none⟩) (by show W.heap.size < _; omega)).trans HK1.out⟩, by simp [intOf]; omega⟩
    · obtain rfl : i = m := by omega
      have hd : decide ((i : Int) < (i : Int)) = false := by rw [decide_eq_false_iff_not]; omega
      clear hord own hS hF hng
      go_wp2_with fail
      refine bodyPost_ret (v := .slice A n cc) (by simp [results, Tryz.results23, go_sem]) rfl ?_
      refine ⟨gs, A, cc, by rw [← HNg.out], HOrd.out, Fr.downL HB2.out HF.out (by omega) (by omega), ?_⟩
      · rw [← HNg.out]
        exact own_low HOw.out (by omega)
end Go.Proofs.YthhfndifcdiomaaGreat
