/-
  Plain law of the gaps that are found by turns: a further gap in a sorted list, the best one, the list that is reached.
  One number laid into a list of numbers (slices.Insert), the list being a row of the caller's own.
  A list of numbers with a further one in its place, both the program's and the reference's.
  A list of numbers with a further one in its place, the reference's.
  Conditions: none; plain law. the place lies ahead of the list's end. the list is ascending and the number is not in it.
-/
import Derived.Test.YtmjlnhhgpdcobaaGreatOrdLaw
import Derived.Test.YtmjlnhhgpdcobaaGreatLeftS
import Derived.Test.YtmjlnhhgpdcobaaGreatSafe
import Derived.Test.YtmjlnhhgpdcobaaGreatCopySz
import Derived.Shelf.Spec.SlicesInsert
import Derived.Lib.AppendZerosOnto
import Derived.Laws.NewBlocks
import Derived.Laws.OwnMore
import Derived.Test.YtmjlnhhgpdcobaaGreatLaySr
namespace Go.Proofs.YtmjlnhhgpdcobaaGreat
open Go.RowKit
set_option linter.unusedSimpArgs false
set_option linter.unusedVariables false
open Go.RowKit Go.Lib

/-- How many are less, and where one more belongs. -/
def cntL (gs : List Int) (i : Int) : Nat := gs.countP (fun g => decide (g < i))
def insN (gs : List Int) (i : Int) : List Int := gs.take (cntL gs i) ++ [i] ++ gs.drop (cntL gs i)
theorem cntL_le (gs : List Int) (i : Int) : cntL gs i ≤ gs.length := List.countP_le_length
theorem cnt_lt (i : Int) : ∀ (gs : List Int), gs.Pairwise (· < ·) → ∀ (k : Nat) (g : Int), gs[k]? = some g → (g < i ↔ k < cntL gs i)
  | [], _, k, g, h => by simp at h
  | a :: l, hp, k, g, h => by
    rw [List.pairwise_cons] at hp
    have ih := cnt_lt i l hp.2
    have hz : ¬ a < i → cntL l i = 0 := fun hn => by
      unfold cntL
      rw [List.countP_eq_zero]
      intro b hb
      have := hp.1 b hb
      simp only [decide_eq_true_eq]
      omega
    have e : cntL (a :: l) i = cntL l i + (if a < i then 1 else 0) := by
      unfold cntL
      rw [List.countP_cons]
      by_cases ha : a < i
      · simp [ha]
      · simp [ha]
    rw [e]
    cases k with
    | zero =>
      rw [List.getElem?_cons_zero, Option.some.injEq] at h
      subst h
      by_cases ha : a < i
      · rw [if_pos ha]; exact ⟨fun _ => by omega, fun _ => ha⟩
      · rw [if_neg ha, hz ha]; exact ⟨fun h => absurd h ha, fun h => absurd h (by omega)⟩
    | succ k =>
      rw [List.getElem?_cons_succ] at h
      by_cases ha : a < i
      · rw [if_pos ha, ih k g h]; omega
      · rw [if_neg ha, hz ha]
        have := hp.1 g (List.mem_of_getElem? h)
        exact ⟨fun h => absurd h (by omega), fun h => absurd h (by omega)⟩
theorem insN_len (gs : List Int) (i : Int) : (insN gs i).length = gs.length + 1 := by
  have := cntL_le gs i
  unfold insN
  rw [List.length_append, List.length_append, List.length_take, List.length_drop]
  simp
  omega
theorem insN_perm (gs : List Int) (i : Int) : (insN gs i).Perm (i :: gs) := by
  unfold insN
  have h : (gs.take (cntL gs i) ++ ([i] ++ gs.drop (cntL gs i))).Perm (i :: (gs.take (cntL gs i) ++ gs.drop (cntL gs i))) := List.perm_middle
  rw [List.take_append_drop] at h
  rw [List.append_assoc]
  exact h
theorem insN_mem {gs : List Int} {i x : Int} : x ∈ insN gs i ↔ x = i ∨ x ∈ gs := by
  rw [(insN_perm gs i).mem_iff, List.mem_cons]
theorem insN_sorted {gs : List Int} {i : Int} (h : gs.Pairwise (· < ·)) (hn : i ∉ gs) : (insN gs i).Pairwise (· < ·) := by
  have hc := cnt_lt i gs h
  have e : gs.take (cntL gs i) ++ gs.drop (cntL gs i) = gs := List.take_append_drop _ _
  have h2 := h
  rw [← e, List.pairwise_append] at h2
  unfold insN
  rw [List.append_assoc, List.pairwise_append]
  refine ⟨h2.1, ?_, ?_⟩
  · rw [List.singleton_append, List.pairwise_cons]
    refine ⟨fun b hb => ?_, h2.2.1⟩
    obtain ⟨k, hk⟩ := List.mem_iff_getElem?.1 hb
    rw [List.getElem?_drop] at hk
    have h3 := hc _ _ hk
    have h4 : b ∈ gs := List.mem_of_getElem? hk
    have h5 : b ≠ i := fun e => hn (e ▸ h4)
    have h6 : ¬ b < i := fun h => absurd (h3.1 h) (by omega)
    omega
  · intro a ha b hb
    obtain ⟨k, hk⟩ := List.mem_iff_getElem?.1 ha
    rw [List.getElem?_take] at hk
    split at hk
    · rename_i hlt
      have ha2 : a < i := (hc _ _ hk).2 hlt
      rw [List.singleton_append, List.mem_cons] at hb
      rcases hb with rfl | hb
      · exact ha2
      · exact h2.2.2 a ha b hb
    · cases hk
/-- The reference's loop over the gaps that are there, up to the k-th. -/
def insR (gs : List Int) (i : Int) (k : Nat) : List Int := if k ≤ cntL gs i then gs.take k else gs.take (cntL gs i) ++ [i] ++ (gs.take k).drop (cntL gs i)
theorem insR_all {gs : List Int} {i : Int} : (insR gs i gs.length) ++ (if gs.length ≤ cntL gs i then [i] else []) = insN gs i := by
  have := cntL_le gs i
  unfold insR insN
  by_cases h : gs.length ≤ cntL gs i
  · have e : cntL gs i = gs.length := by omega
    rw [if_pos h, if_pos h, e, List.take_of_length_le (Nat.le_refl _), List.drop_of_length_le (Nat.le_refl _), List.append_nil]
  · rw [if_neg h, if_neg h, List.append_nil, List.take_of_length_le (Nat.le_refl gs.length)]
theorem insR_step {gs : List Int} {i g : Int} {k : Nat} (hk : gs[k]? = some g) : insR gs i (k + 1) = (if k = cntL gs i then insR gs i k ++ [i] else insR gs i k) ++ [g] := by
  have hlt := (List.getElem?_eq_some_iff.1 hk).1
  have e : gs.take (k + 1) = gs.take k ++ [g] := by rw [List.take_add_one, hk]; rfl
  have hl : (gs.take k).length = k := by rw [List.length_take]; omega
  unfold insR
  by_cases h1 : k < cntL gs i
  · rw [if_pos (by omega), if_neg (by omega), if_pos (by omega), e]
  · by_cases h2 : k = cntL gs i
    · rw [if_neg (by omega), if_pos h2, if_pos (by omega), e, ← h2, List.drop_append_of_le_length (by omega), List.drop_of_length_le (by omega), List.nil_append]
    · rw [if_neg (by omega), if_neg h2, if_neg (by omega), e, List.drop_append_of_le_length (by omega)]
      simp only [List.append_assoc]
/-- The gaps after m turns. -/
def costN (xs : List Pc) (gs : List Int) (i : Nat) : Int := leftG xs (insN gs (i : Int))
def gapT (xs : List Pc) : Nat → List Int
  | 0 => []
  | m + 1 => insN (gapT xs m) (turnB (costN xs (gapT xs m)) (hasO (gapT xs m)) xs.length).1
def GapOk (n : Nat) (gs : List Int) : Prop := gs.Pairwise (· < ·) ∧ ∀ g ∈ gs, 0 ≤ g ∧ g < n
theorem GapOk.len {n : Nat} {gs : List Int} (h : GapOk n gs) : gs.length ≤ n := by
  have hnd : gs.Nodup := h.1.imp (fun h => by omega)
  have := (hnd).length_le_of_subset (l₂ := (List.range n).map (fun (i : Nat) => (i : Int))) (fun x hx => by
    have := h.2 x hx
    exact List.mem_map.2 ⟨x.toNat, List.mem_range.2 (by omega), by omega⟩)
  simpa using this
theorem GapOk.ins {n : Nat} {gs : List Int} (h : GapOk n gs) {i : Nat} (hi : i < n) (hf : hasO gs i = false) : GapOk n (insN gs (i : Int)) := by
  have hn : (i : Int) ∉ gs := fun hm => by
    unfold hasO at hf
    rw [any_isN.2 hm] at hf
    cases hf
  refine ⟨insN_sorted h.1 hn, fun g hg => ?_⟩
  rcases insN_mem.1 hg with rfl | hg
  · omega
  · exact h.2 g hg
theorem keep_all (gs : List Int) : ∀ (l : List Pc) (i : Nat), (∀ j, j < l.length → gs.any (isN ((i + j : Nat) : Int)) = true) → keepL gs i l = []
  | [], _, _ => rfl
  | p :: l, i, h => by
    have h0 := h 0 (by simp)
    have ih := keep_all gs l (i + 1) (fun j hj => by rw [show i + 1 + j = i + (j + 1) by omega]; exact h (j + 1) (by simp; omega))
    unfold keepL
    rw [Nat.add_zero] at h0
    rw [h0, ih]
    rfl
theorem left_free {xs : List Pc} {gs : List Int} (h : 0 < leftG xs gs) : ∃ i, i < xs.length ∧ hasO gs i = false := by
  refine Classical.byContradiction fun hno => ?_
  have e : keepL gs 0 xs = [] := keep_all gs xs 0 (fun j hj => by
    cases hh : hasO gs j with
    | true => rw [Nat.zero_add]; exact hh
    | false => exact absurd ⟨j, hj, hh⟩ hno)
  have hc := costW_in []
  unfold leftG at h
  rw [e] at h
  simp at hc
  omega
theorem gap_next {xs : List Pc} {gs : List Int} (hg : GapOk xs.length gs) (h : 0 < leftG xs gs) (cost : Nat → Int) :
    ∃ i : Nat, (turnB cost (hasO gs) xs.length).1 = (i : Int) ∧ i < xs.length ∧ hasO gs i = false ∧ GapOk xs.length (insN gs (i : Int)) := by
  obtain ⟨i, hi, hf⟩ := left_free h
  obtain ⟨t1, t2, t3, _⟩ := turn_in cost (hasO gs) xs.length
  have t4 := t3 i hi hf
  have t5 := (t2 t4).1
  have hlt : (turnB cost (hasO gs) xs.length).1.toNat < xs.length := by omega
  exact ⟨_, by omega, hlt, t5, hg.ins hlt t5⟩
/-- How many turns there are. -/
def stT (xs : List Pc) (most : Int) : Nat → Nat → Nat
  | 0, m => m
  | f + 1, m => if leftG xs (gapT xs m) ≤ most then m else stT xs most f (m + 1)
theorem stT_stop {xs : List Pc} {most : Int} {f m : Nat} (h : leftG xs (gapT xs m) ≤ most) : stT xs most f m = m := by
  cases f with
  | zero => rfl
  | succ f => unfold stT; rw [if_pos h]
theorem stT_go {xs : List Pc} {most : Int} {f m : Nat} (h : ¬ leftG xs (gapT xs m) ≤ most) : stT xs most (f + 1) m = stT xs most f (m + 1) := by
  conv => lhs; unfold stT
  rw [if_neg h]
def GapsByTurnsG (wi hi : Int) (xs : List Pc) (most : Int) : List Int × Int :=
  if builtG wi hi xs = 0 then (if most < 0 then ([], 2) else (gapT xs (stT xs most xs.length 0), 0)) else ([], builtG wi hi xs)
theorem gap_ok (xs : List Pc) (most : Int) (h0 : 0 ≤ most) : ∀ (f m : Nat), GapOk xs.length (gapT xs m) → (gapT xs m).length = m → f + m = xs.length → GapOk xs.length (gapT xs (stT xs most f m)) ∧ (gapT xs (stT xs most f m)).length ≤ xs.length
  | 0, m, h, hl, hf => ⟨h, by show (gapT xs m).length ≤ _; omega⟩
  | f + 1, m, h, hl, hf => by
    by_cases hs : leftG xs (gapT xs m) ≤ most
    · rw [stT_stop hs]; exact ⟨h, by omega⟩
    · rw [stT_go hs]
      obtain ⟨i, hi, hlt, hf2, hok⟩ := gap_next h (by omega) (costN xs (gapT xs m))
      have e : gapT xs (m + 1) = insN (gapT xs m) (i : Int) := by rw [show gapT xs (m + 1) = insN (gapT xs m) (turnB (costN xs (gapT xs m)) (hasO (gapT xs m)) xs.length).1 from rfl, hi]
      exact gap_ok xs most h0 f (m + 1) (by rw [e]; exact hok) (by rw [e, insN_len, hl]) (by omega)
theorem GapsByTurns_len (wi hi : Int) (xs : List Pc) (most : Int) (h : xs.length ≤ 1048576) : (GapsByTurnsG wi hi xs most).1.length ≤ 1048576 := by
  unfold GapsByTurnsG
  split
  · split
    · simp
    · have := (gap_ok xs most (by omega) xs.length 0 ⟨List.Pairwise.nil, fun g hg => absurd hg List.not_mem_nil⟩ rfl (by omega)).2
      exact Nat.le_trans this h
  · simp
theorem inN_list (T D S four : List Value) (i : Nat) (h4 : four.length = 1) (hT : T.length = i) (hS : S.length = 1) :
    setL (setL (T ++ D ++ S) ((i + 1)) D) (i) four = T ++ four ++ D := by
  have e1 : setL (T ++ D ++ S) ((i + 1)) D = (T ++ D ++ S).take ((i + 1)) ++ D := by
    rw [setL_spread _ _ _ (by simp only [List.length_append]; omega), List.drop_of_length_le (by simp only [List.length_append]; omega), List.append_nil]
  have hl : ((T ++ D ++ S).take ((i + 1))).length = (i + 1) := by rw [List.length_take]; simp only [List.length_append]; omega
  rw [e1, setL_spread _ _ _ (by rw [List.length_append, hl]; omega), h4]
  have e2 : ((T ++ D ++ S).take ((i + 1)) ++ D).take (i) = T := by
    rw [List.take_append_of_le_length (by rw [hl]; omega), List.take_take, Nat.min_eq_left (by omega), List.append_assoc, List.take_append_of_le_length (by omega), List.take_of_length_le (by omega)]
  have e3 : ((T ++ D ++ S).take ((i + 1)) ++ D).drop (i + 1) = D := by
    rw [List.drop_append_of_le_length (by rw [hl]; omega), List.drop_of_length_le (by rw [hl]; omega), List.nil_append]
  rw [e2, e3]
theorem inN_list2 (X T D four : List Value) (i n : Nat) (h4 : four.length = 1) (hX : X.length = (n + 1)) (hT : X.take (i) = T) (hD : D.length = (n - i)) (hi : i ≤ n) :
    setL (setL X (i) four) ((i + 1)) D = T ++ four ++ D := by
  have hl : (setL X (i) four).length = X.length := setL_length _ _ _
  rw [setL_spread D _ _ (by rw [hl]; omega), List.drop_of_length_le (by rw [hl]; omega), List.append_nil, setL_spread _ _ _ (by omega), hT, h4]
  congr 1
  have : T.length = i := by rw [← hT, List.length_take]; omega
  rw [List.take_append_of_le_length (by simp; omega), List.take_of_length_le (by simp; omega)]
set_option maxHeartbeats 4000000 in
set_option maxRecDepth 100000 in
/-- slices.Insert, one number: there is room: in place. -/
theorem inN_shift (b off n c i vb : Nat) (cs vs : List Value) (w : World) (hi : i < n) (hroom : n + 1 ≤ c) (hc63 : c ≤ 9223372036854775807) (hvb : vb ≠ b)
    (hcl : cs.length = n) (hvl : vs.length = 1)
    (hcs : ∀ j v, cs[j]? = some v → w.cell? ⟨b, off + j, none⟩ = some v) (hsp : ∀ j, j < (n + 1) → (w.cell? ⟨b, off + j, none⟩).isSome = true) (hfz : ∀ j, j < (n + 1) → w.frozen? ⟨b, off + j, none⟩ = false)
    (hvs : ∀ j v, vs[j]? = some v → w.cell? ⟨vb, 0 + j, none⟩ = some v) (h1c : ∀ v ∈ cs, v.oneCell' = true) (h1v : ∀ v ∈ vs, v.oneCell' = true)
    (tA tB : TypeId) (kA kB : Nat) (hsa : w.shape? vb = some (tA, kA)) (hsb : w.shape? b = some (tB, kB)) (hkB : kB ≠ 0) (hfa : w.frozen? ⟨vb, 0, none⟩ = false) (hfe : w.frozen? ⟨vb, kA, none⟩ = false) :
    Calls Tryz.prog 95 #[.slice (some ⟨b, off, none⟩) n c, .int .i64 i, .slice (some ⟨vb, 0, none⟩) (1 : Nat) 1] w fun e w' =>
      e = .returned (.slice (some ⟨b, off, none⟩) (n + 1) c) ∧ w' = (w.drew.setCells b (off + (i + 1)) (cs.drop (i))).setCells b (off + i) vs := by
  have u24 := run_underlying Tryz.underlying26
  have hz2 : ¬ ((i : Int) = (n : Int)) := by omega
  have hsz : (Tryz.prog.info? 2).map (·.size) = some 1 := by kernel_rfl
  have hov : ∀ lb cb, (callFunc 121 #[.slice (some ⟨vb, 0, none⟩) (1 : Nat) 1, .slice (some ⟨b, off + (i + 1), none⟩) lb cb]).run Tryz.prog w = .ok (.value (.bool false)) w := fun lb cb => by
    rw [run_callFunc_extern Tryz.func121 (by kernel_rfl) (by kernel_rfl) (by kernel_rfl) (e := Extern.SlicesOverlaps.overlaps #[26, 26 ] #[4 ]) (by kernel_rfl),
      Lib.run_overlaps_apart w 26 4 2 Tryz.underlying26 1 Tryz.sizeOf2 ⟨vb, 0, none⟩ ⟨b, off + (i + 1), none⟩ 1 1 lb cb hvb tA tB kA kB hsa hsb hkB hfa hfe]
    rfl
  have hdl : (cs.drop (i)).length = (n - i) := by rw [List.length_drop, hcl]
  have mixed : Tryz.prog.follows .mixedOrders = true := by kernel_rfl
  have hw1 : IntKind.i64.wrap ((i : Int) + 1) = (i : Int) + 1 := by rw [IntKind.wrap_i64]; omega
  have hb1 : (0 : Int) ≤ (i : Int) + 1 := by omega
  have hin : i ≤ n := by omega
  have htn : ((i : Int) + 1).toNat = i + 1 := by omega
  have hb2 : ¬ (c = i + 1) := by omega
  have hb3 : (i : Int) ≤ (n : Int) + 1 := by omega
  have hb4 : ¬ (c = i) := by omega
  have hcp1 : ∀ ty dc sc, (Builtin.copy_ #[26, 26 ] ty #[.slice (some ⟨b, off + (i + 1), none⟩) (n - i) dc, .slice (some ⟨b, off + i, none⟩) (n + 1 - i) sc]).run Tryz.prog w.drew = .ok (goInt (Nat.min (n + 1 - i) (n - i))) (w.drew.setCells b (off + (i + 1)) (cs.drop (i))) := fun ty dc sc =>
    copy_cells_sz w.drew _ _ ty 2 1 b (off + (i + 1)) (n - i) dc ⟨b, off + i, none⟩ (n + 1 - i) sc (cs.drop (i)) Tryz.underlying26 hsz (by rw [hdl]; simp only [Nat.min_def]; split <;> omega)
      (fun j v hj => by rw [Addr.add_lit, Nat.add_assoc]; exact hcs (i + j) v (by rwa [List.getElem?_drop] at hj))
      (fun j hj => by rw [Nat.add_assoc]; exact hsp _ (by omega)) (fun j hj => by rw [Nat.add_assoc]; exact hfz _ (by omega)) (fun v hv => h1c v (List.mem_of_mem_drop hv))
  obtain ⟨W1, hW1⟩ : ∃ W1, W1 = w.drew.setCells b (off + (i + 1)) (cs.drop (i)) := ⟨_, rfl⟩
  have hsp1 : ∀ k, k < (n + 1) → (W1.cell? ⟨b, off + k, none⟩).isSome = true := fun k hk => by
    rw [hW1]
    exact isSome_setCells b _ _ _ (fun j hj => by rw [Nat.add_assoc]; exact hsp _ (by omega)) _ (hsp k hk)
  have hcp2 : ∀ (W : World), (∀ x, W.cell? x = W1.cell? x) → (∀ x, W.frozen? x = W1.frozen? x) → ∀ ty dc, (Builtin.copy_ #[26, 26 ] ty #[.slice (some ⟨b, off + i, none⟩) (n + 1 - i) dc, .slice (some ⟨vb, 0, none⟩) (1 : Nat) 1]).run Tryz.prog W = .ok (goInt (Nat.min 1 (n + 1 - i))) (W.setCells b (off + i) vs) := fun W hWc hWf ty dc =>
    copy_cells_sz W _ _ ty 2 1 b (off + i) (n + 1 - i) dc ⟨vb, 0, none⟩ 1 1 vs Tryz.underlying26 hsz (by rw [hvl]; simp only [Nat.min_def]; split <;> omega)
      (fun j v hj => by
        rw [Addr.add_lit, hWc, hW1, World.cell?_setCells_out b _ _ _ _ (fun h _ => absurd h hvb)]
        exact hvs j v hj)
      (fun j hj => by rw [hWc, Nat.add_assoc]; exact hsp1 _ (by omega)) (fun j hj => by rw [hWf, hW1, World.frozen?_setCells, Nat.add_assoc]; exact hfz _ (by omega)) h1v
  rw [← hW1] at hcp1
  go_enter Tryz.func95, Tryz.ntmps95
  go_wp2_with (simp only [hov])
  go_region_law_o (refine step_copy_runI rfl _ _ 26 26 rfl _ _ (by simp [Act.eval, Act.put]) (by simp [Act.eval, Act.put]) (hcp1 _ _ _) ?_)
  go_wp2_with (at_builtin; refine wpList_copy_runI _ rfl _ _ 26 26 rfl _ _ rfl rfl (hcp2 _ (fun _ => rfl) (fun _ => rfl) _ _) ?_)
  go_ret
  first | exact ⟨rfl, rfl⟩ | exact ⟨rfl, by rw [hW1]⟩
set_option maxHeartbeats 4000000 in
set_option maxRecDepth 100000 in
/-- slices.Insert, one number: there is no room: a new row. -/
theorem inN_grow (b off n c i vb : Nat) (cs vs : List Value) (w : World) (hi : i < n) (hnc : n ≤ c) (hroom : c < n + 1) (hbig : (n + 1) * 8 ≤ 140737488355328)
    (hcl : cs.length = n) (hvl : vs.length = 1)
    (hcs : ∀ j v, cs[j]? = some v → w.cell? ⟨b, off + j, none⟩ = some v)
    (hvs : ∀ j v, vs[j]? = some v → w.cell? ⟨vb, 0 + j, none⟩ = some v) (h1c : ∀ v ∈ cs, v.oneCell' = true) (h1v : ∀ v ∈ vs, v.oneCell' = true) :
    Calls Tryz.prog 95 #[.slice (some ⟨b, off, none⟩) n c, .int .i64 i, .slice (some ⟨vb, 0, none⟩) (1 : Nat) 1] w fun e w' =>
      e = .returned (.slice (some ⟨w.heap.size, 0, none⟩) (n + 1) (grownCap w (n + 1) c 2)) ∧
      w' = (((w.alloc (.cells ((cs.take (i)).toArray ++ Builtin.zeroCells (Value.int .i64 0).cells (n + 1 - i) ++ Builtin.zeroCells (Value.int .i64 0).cells (grownCap w (n + 1) c 2 - (n + 1))) 2)).drew.setCells w.heap.size (i) vs).drew).setCells w.heap.size ((i + 1)) (cs.drop (i)) := by
  have u24 := run_underlying Tryz.underlying26
  have mixed : Tryz.prog.follows .mixedOrders = true := by kernel_rfl
  have hinf : (Tryz.prog.info? 2).map (fun i => (i.zero, i.size, i.bytes)) = some (some (.int .i64 0), 1, 8) := by kernel_rfl
  obtain ⟨i0, hi0, hzz⟩ := Option.map_eq_some_iff.1 hinf
  simp only [Prod.mk.injEq] at hzz
  obtain ⟨hz0, hzs, hzb⟩ := hzz
  clear hinf
  have hz2 : ¬ ((i : Int) = (n : Int)) := by omega
  have hz3 : (c : Int) < (n : Int) + 1 := by omega
  have hsz : (Tryz.prog.info? 2).map (·.size) = some 1 := by rw [hi0]; simp [hzs]
  have hbw : b < w.heap.size := block_lt_of_cell (hcs 0 _ (List.getElem?_eq_getElem (by omega)))
  have hvw : vb < w.heap.size := block_lt_of_cell (hvs 0 _ (List.getElem?_eq_getElem (by omega)))
  have hkk : (n : Int) + 1 - (i : Int) = ((n + 1 - i : Nat) : Int) := by omega
  have hik : i + (n + 1 - i) = n + 1 := by omega
  have hold : (Builtin.firstCells i0.size i (.slice (some ⟨b, off, none⟩) i c)).run Tryz.prog w.drew = .ok (cs.take (i)).toArray w.drew := by
    rw [hzs]
    exact run_firstCells_some w.drew 1 i ⟨b, off, none⟩ i c (cs.take (i)) (by rw [List.length_take]; omega) (fun j v hj => by
      rw [Addr.add_lit]
      rw [List.getElem?_take] at hj
      split at hj
      · exact hcs j v hj
      · cases hj)
  have hrz : ∀ ty, (Builtin.append_ #[26, 3 ] ty #[.slice (some ⟨b, off, none⟩) i c, .int .i64 ((n : Int) + 1 - (i : Int))]).run Tryz.prog w =
      .ok (.slice (some ⟨w.heap.size, 0, none⟩) (n + 1) (grownCap w (n + 1) c 2)) (w.drew.alloc (.cells ((cs.take (i)).toArray ++ Builtin.zeroCells (Value.int .i64 0).cells (n + 1 - i) ++ Builtin.zeroCells (Value.int .i64 0).cells (grownCap w (n + 1) c 2 - (n + 1))) 2)) := fun ty => by
    have h := Lib.run_append_grow_zeros w 26 3 ty 2 i0 _ .i64 .i64 Tryz.underlying26 Tryz.underlying3 hi0 hz0 (some ⟨b, off, none⟩) i c (cs.take (i)) hold (n + 1 - i) (by omega) (by omega) (by omega) (by omega) (by rw [hzb]; omega) (by rw [hzb, hik]; exact growslice_fits hroom hbig)
    rw [hik] at h
    rw [hkk]
    exact h
  obtain ⟨G, hG⟩ : ∃ G, G = grownCap w (n + 1) c 2 := ⟨_, rfl⟩
  obtain ⟨ROW, hROW⟩ : ∃ ROW : Array Value, ROW = (cs.take (i)).toArray ++ Builtin.zeroCells (Value.int .i64 0).cells (n + 1 - i) ++ Builtin.zeroCells (Value.int .i64 0).cells (G - (n + 1)) := ⟨_, rfl⟩
  rw [← hG] at hrz ⊢
  rw [← hROW] at hrz ⊢
  have hRl : (n + 1) ≤ ROW.size := by
    rw [hROW]
    simp [Builtin.zeroCells, Value.cells]
    omega
  obtain ⟨W1, hW1⟩ : ∃ W1, W1 = w.drew.alloc (.cells ROW 2) := ⟨_, rfl⟩
  rw [← hW1] at hrz
  have hN : ∀ j, j < (n + 1) → (W1.cell? ⟨w.heap.size, j, none⟩).isSome = true := fun j hj => by
    rw [hW1, World.cell?_alloc_at (w := w.drew) ROW _ w.heap.size j rfl, Array.getElem?_eq_getElem (by omega)]; rfl
  have hNf : ∀ j, W1.frozen? ⟨w.heap.size, j, none⟩ = false := fun j => by rw [hW1]; exact World.frozen?_alloc_at (w := w.drew) ROW _ w.heap.size j rfl
  have hOb : ∀ j v, w.cell? ⟨b, j, none⟩ = some v → W1.cell? ⟨b, j, none⟩ = some v := fun j v h => by rw [hW1, World.cell?_alloc_past (w := w.drew) _ b j hbw]; exact h
  have hOv : ∀ j v, w.cell? ⟨vb, j, none⟩ = some v → W1.cell? ⟨vb, j, none⟩ = some v := fun j v h => by rw [hW1, World.cell?_alloc_past (w := w.drew) _ vb j hvw]; exact h
  have hcpA : ∀ (W : World), (∀ x, W.cell? x = W1.cell? x) → (∀ x, W.frozen? x = W1.frozen? x) → ∀ ty dc, (Builtin.copy_ #[26, 26 ] ty #[.slice (some ⟨w.heap.size, i, none⟩) (n + 1 - i) dc, .slice (some ⟨vb, 0, none⟩) (1 : Nat) 1]).run Tryz.prog W = .ok (goInt (Nat.min 1 (n + 1 - i))) (W.setCells w.heap.size (i) vs) := fun W hWc hWf ty dc =>
    copy_cells_sz W _ _ ty 2 1 w.heap.size (i) (n + 1 - i) dc ⟨vb, 0, none⟩ 1 1 vs Tryz.underlying26 hsz (by rw [hvl]; simp only [Nat.min_def]; split <;> omega)
      (fun j v hj => by rw [Addr.add_lit, hWc]; exact hOv _ v (hvs j v hj))
      (fun j hj => by rw [hWc]; exact hN _ (by omega)) (fun j hj => by rw [hWf]; exact hNf _) h1v
  have hGn : n + 1 ≤ G := by rw [hG]; exact grownCap_ge w _ _ _
  have hG63 : G ≤ 9223372036854775807 := by
    have := grownCap_le_maxLen w (n + 1) c 2 (by unfold maxLen; omega)
    rw [← hG] at this
    unfold maxLen at this
    omega
  have hGi : ¬ (G = i) := by omega
  have hGim : ¬ (G = i + 1) := by omega
  have hci : ¬ (c = i) := by omega
  have hbN : b ≠ w.heap.size := by omega
  have hdl : (cs.drop (i)).length = (n - i) := by rw [List.length_drop, hcl]
  have hcpB : ∀ (W : World), (∀ x, W.cell? x = (W1.setCells w.heap.size (i) vs).cell? x) → (∀ x, W.frozen? x = (W1.setCells w.heap.size (i) vs).frozen? x) → ∀ ty dc sc, (Builtin.copy_ #[26, 26 ] ty #[.slice (some ⟨w.heap.size, (i + 1), none⟩) (n - i) dc, .slice (some ⟨b, off + i, none⟩) (n - i) sc]).run Tryz.prog W = .ok (goInt (Nat.min (n - i) (n - i))) (W.setCells w.heap.size ((i + 1)) (cs.drop (i))) := fun W hWc hWf ty dc sc =>
    copy_cells_sz W _ _ ty 2 1 w.heap.size ((i + 1)) (n - i) dc ⟨b, off + i, none⟩ (n - i) sc (cs.drop (i)) Tryz.underlying26 hsz (by rw [hdl]; simp only [Nat.min_def]; split <;> omega)
      (fun j v hj => by
        rw [Addr.add_lit, hWc, World.cell?_setCells_out _ _ _ _ _ (fun h _ => absurd h hbN), Nat.add_assoc]
        exact hOb _ v (hcs (i + j) v (by rwa [List.getElem?_drop] at hj)))
      (fun j hj => by rw [hWc]; exact isSome_setCells _ _ _ _ (fun t ht => hN _ (by omega)) _ (hN _ (by omega)))
      (fun j hj => by rw [hWf, World.frozen?_setCells]; exact hNf _) (fun v hv => h1c v (List.mem_of_mem_drop hv))
  subst hW1
  have hE1 : ∀ x, ((w.alloc (.cells ROW 2)).drew).cell? x = (w.drew.alloc (.cells ROW 2)).cell? x := fun x => rfl
  have hE2 : ∀ x, ((w.alloc (.cells ROW 2)).drew).frozen? x = (w.drew.alloc (.cells ROW 2)).frozen? x := fun x => rfl
  have hF1 : ∀ x, (((w.alloc (.cells ROW 2)).drew.setCells w.heap.size (i) vs).drew).cell? x = ((w.drew.alloc (.cells ROW 2)).setCells w.heap.size (i) vs).cell? x := fun x => rfl
  have hF2 : ∀ x, (((w.alloc (.cells ROW 2)).drew.setCells w.heap.size (i) vs).drew).frozen? x = ((w.drew.alloc (.cells ROW 2)).setCells w.heap.size (i) vs).frozen? x := fun x => rfl
  have hw1 : IntKind.i64.wrap ((i : Int) + 1) = (i : Int) + 1 := by rw [IntKind.wrap_i64]; omega
  have hb1 : (0 : Int) ≤ (i : Int) + 1 := by omega
  have hin : i ≤ n := by omega
  have htn : ((i : Int) + 1).toNat = i + 1 := by omega
  have hb3 : (i : Int) ≤ (n : Int) := by omega
  clear hkk hik hold hROW hG hRl
  go_enter Tryz.func95, Tryz.ntmps95
  go_wp2_with (first
    | (at_builtin; refine Lib.wpList_append_run _ rfl _ _ _ _ rfl _ _ rfl rfl _ _ (hrz _) ?_)
    | (at_builtin; refine wpList_copy_runI _ rfl _ _ 26 26 rfl _ _ rfl rfl (hcpA _ hE1 hE2 _ _) ?_)
    | (at_builtin; refine wpList_copy_runI _ rfl _ _ 26 26 rfl _ _ rfl rfl (hcpB _ (fun _ => rfl) (fun _ => rfl) _ _ _) ?_))
  go_region_law_o (refine step_copy_runI rfl _ _ 26 26 rfl (.slice (some ⟨w.heap.size, (i + 1), none⟩) (n - i) (G - (i + 1))) (.slice (some ⟨b, off + i, none⟩) (n - i) (c - i)) (by simp [Act.eval, Act.put]) (by simp [Act.eval, Act.put]) (hcpB _ hF1 hF2 3 (G - (i + 1)) (c - i)) ?_)
  go_wp2
  go_ret
  exact ⟨rfl, rfl⟩
theorem inN_I (w : World) (base : Nat) (A : Option Addr) (c : Nat) (xs : List Int) (own : w.ownsRow base 2 1 (.slice A xs.length c) xs.length (xs.flatMap en1)) (hbase : base ≤ w.heap.size) (i vb : Nat) (hi : i < xs.length) (hln : xs.length ≤ 1073741824) (x : Int) (base2 : Nat)
    (vown : w.ownsRow base2 2 1 (.slice (some ⟨vb, 0, none⟩) (1 : Nat) 1) 1 [.int .i64 x]) (hne : ∀ a, A = some a → vb ≠ a.block) :
    Calls Tryz.prog 95 #[.slice A xs.length c, .int .i64 i, .slice (some ⟨vb, 0, none⟩) (1 : Nat) 1] w fun e w' =>
      ∃ A' c', e = .returned (.slice A' (xs.length + 1) c') ∧ Below base w w' ∧ w'.ownsRow base 2 1 (.slice A' (xs.length + 1) c') (xs.length + 1) ((xs.take i ++ [x] ++ xs.drop i).flatMap en1) ∧ ∀ a, A = some a → w.grownBy w' (some a.block) := by
  obtain ⟨g, cap', hv, hg, hlt⟩ := own.form (by omega)
  injection hv with hv1 hv2 hv3
  subst hv1
  have hne' := hne _ rfl
  obtain ⟨cur, hcur, hcs, hnc, hcm⟩ := own_heap own
  obtain ⟨vcur, hvcur, hvsz, _, _⟩ := own_heap vown
  have hl : (xs.flatMap en1).length = xs.length := by rw [own.1, Nat.mul_one]
  have hcells : ∀ j v, (xs.flatMap en1)[j]? = some v → w.cell? ⟨g, 0 + j, none⟩ = some v := fun j v hj => by
    have := (List.getElem?_eq_some_iff.1 hj).1
    rw [Nat.zero_add, own.cellAt j (by omega)]
    exact hj
  have hvs : ∀ j v, ([.int .i64 x] : List Value)[j]? = some v → w.cell? ⟨vb, 0 + j, none⟩ = some v := fun j v hj => by
    have : j < 1 := (List.getElem?_eq_some_iff.1 hj).1
    rw [Nat.zero_add, vown.cellAt j (by omega)]
    exact hj
  have h1c := oneCell_flat (en := en1) (fun p u hu => by simp [en1] at hu; subst hu; rfl) xs
  have h1v : ∀ v ∈ ([.int .i64 x] : List Value), v.oneCell' = true := by intro u hu; simp at hu; rcases hu with rfl; rfl
  have hT : ((xs.take i).flatMap en1).length = i := by rw [flatMap_len (en := en1) (n := 1) (fun _ => rfl), List.length_take]; omega
  have eT : (xs.flatMap en1).take (i) = (xs.take i).flatMap en1 := by
    conv => lhs; rw [← List.take_append_drop i xs, List.flatMap_append]
    rw [List.take_append_of_le_length (by omega), List.take_of_length_le (by omega)]
  have eD : (xs.flatMap en1).drop (i) = (xs.drop i).flatMap en1 := by
    conv => lhs; rw [← List.take_append_drop i xs, List.flatMap_append]
    rw [List.drop_append_of_le_length (by omega), List.drop_of_length_le (by omega), List.nil_append]
  have eR : (xs.take i ++ [x] ++ xs.drop i).flatMap en1 = (xs.take i).flatMap en1 ++ [.int .i64 x] ++ (xs.drop i).flatMap en1 := by
    rw [List.flatMap_append, List.flatMap_append]
    rfl
  have eX : xs.flatMap en1 = (xs.take i).flatMap en1 ++ (xs.drop i).flatMap en1 := by rw [← List.flatMap_append, List.take_append_drop]
  have hD : ((xs.drop i).flatMap en1).length = (xs.length - i) := by rw [flatMap_len (en := en1) (n := 1) (fun _ => rfl), List.length_drop, Nat.mul_one]
  by_cases hroom : xs.length + 1 ≤ c
  · obtain ⟨S, hS, ownS⟩ := own_more own hroom
    refine (inN_shift g 0 xs.length c i vb (xs.flatMap en1) _ w hi hroom (by unfold maxLen at hcm; omega) hne' hl rfl hcells (fun j hj => ?_) (fun j _ => ownS.frozenAt _) hvs h1c h1v 2 2 vcur.size cur.size ?_ ?_ (by omega) (vown.frozenAt _) (vown.frozenAt _)).mono ?_
    · have h1 := ownS.1
      rw [Nat.zero_add, ownS.cellAt j (by omega), List.getElem?_eq_getElem (by omega)]
      rfl
    · unfold World.shape?
      rw [hvcur]
    · unfold World.shape?
      rw [hcur]
    · rintro e w' ⟨rfl, rfl⟩
      have o1 := own_setCells ((xs.flatMap en1).drop (i)) _ (0 + (i + 1)) _ ownS.drew
      have o2 := own_setCells [.int .i64 x] _ (0 + i) _ o1.1
      have G12 := o1.2.trans o2.2
      have BB := below_own (v := .slice (some ⟨g, 0, none⟩) xs.length c) ((Below.refl base w).drew) own.drew hbase G12
      refine ⟨some ⟨g, 0, none⟩, c, rfl, BB, ?_, fun a ha => by cases ha; exact ⟨G12.os, G12.tape, G12.output, G12.size, G12.block⟩⟩
      have eC : setL (setL (xs.flatMap en1 ++ S) (0 + (i + 1)) ((xs.flatMap en1).drop (i))) (0 + i) [.int .i64 x] = (xs.take i ++ [x] ++ xs.drop i).flatMap en1 := by
        rw [eR, ← inN_list _ _ S _ i rfl hT hS, Nat.zero_add, Nat.zero_add, eD, eX]
      rw [← eC]
      exact o2.1
  · refine (inN_grow g 0 xs.length c i vb (xs.flatMap en1) _ w hi hnc (by omega) (by omega) hl rfl hcells hvs h1c h1v).mono ?_
    rintro e w' ⟨rfl, rfl⟩
    obtain ⟨G, hG⟩ : ∃ G, G = grownCap w (xs.length + 1) c 2 := ⟨_, rfl⟩
    have hGn : xs.length + 1 ≤ G := by rw [hG]; exact grownCap_ge w _ _ _
    have hGm : G ≤ maxLen := by rw [hG]; exact grownCap_le_maxLen w (xs.length + 1) c 2 (by unfold maxLen; omega)
    rw [← hG]
    obtain ⟨ROW, hROW⟩ : ∃ ROW : Array Value, ROW = ((xs.flatMap en1).take (i)).toArray ++ Builtin.zeroCells (Value.int .i64 0).cells (xs.length + 1 - i) ++ Builtin.zeroCells (Value.int .i64 0).cells (G - (xs.length + 1)) := ⟨_, rfl⟩
    rw [← hROW]
    have e1 : ((xs.flatMap en1).take (i)).length = i := by rw [List.length_take, hl]; omega
    have e2 : ∀ k, (Builtin.zeroCells (Value.int .i64 0).cells k).size = k := fun k => by simp [Builtin.zeroCells, Value.cells]
    have hRs : ROW.size = G := by
      rw [hROW, Array.size_append, Array.size_append, List.size_toArray, e1, e2, e2]
      omega
    have hRl : ROW.toList.length = G := by rw [← hRs]; exact Array.length_toList
    have hRt : ROW.toList.take (i) = (xs.take i).flatMap en1 := by
      obtain ⟨Z, hZ⟩ : ∃ Z, ROW.toList = (xs.flatMap en1).take (i) ++ Z := ⟨_, by rw [hROW, Array.toList_append, Array.toList_append, List.append_assoc]⟩
      rw [hZ, List.take_append_of_le_length (by rw [e1]; exact Nat.le_refl _), List.take_of_length_le (by rw [e1]; exact Nat.le_refl _), eT]
    clear hROW hG
    have o0 : (w.alloc (.cells ROW 2)).ownsRow w.heap.size 2 1 (.slice (some ⟨w.heap.size, 0, none⟩) (xs.length + 1) G) (xs.length + 1) (ROW.toList.take ((xs.length + 1))) :=
      ⟨by rw [List.length_take, hRl]; omega, .inr ⟨w.heap.size, G, ROW, rfl, Nat.le_refl _, heap_alloc_new w _, hGn, hGm, by rw [hRs, Nat.mul_one], by rw [Nat.mul_one]⟩⟩
    have o1 := own_setCells [.int .i64 x] _ (i) _ o0.drew
    have o2 := own_setCells ((xs.flatMap en1).drop (i)) _ ((i + 1)) _ o1.1.drew
    have B1 := below_own (v := .slice (some ⟨w.heap.size, 0, none⟩) (xs.length + 1) G) (((Below.refl w.heap.size w).alloc (Nat.le_refl _) (.cells ROW 2)).drew) o0.drew (by simp) o1.2
    have hz := B1.size
    have B2 := below_own (v := .slice (some ⟨w.heap.size, 0, none⟩) (xs.length + 1) G) B1.drew o1.1.drew (by simp) o2.2
    refine ⟨some ⟨w.heap.size, 0, none⟩, G, rfl, B2.mono hbase, ?_, fun a _ => ⟨B2.os, B2.tape, B2.output, B2.size, fun i hi _ => B2.block i hi⟩⟩
    have eL := inN_list2 (ROW.toList.take ((xs.length + 1))) ((xs.take i).flatMap en1) ((xs.drop i).flatMap en1) [.int .i64 x] i (xs.length) rfl (by rw [List.length_take, hRl]; omega) (by rw [List.take_take, Nat.min_eq_left (by omega)]; exact hRt) hD (by omega)
    rw [eR, ← eL, ← eD]
    exact own_low o2.1 hbase
theorem search_I (g o c : Nat) (gs : List Int) (x : Int) (w : World) (h : SlA en1 1 w (some ⟨g, o, none⟩) gs) (hs : gs.Pairwise (· < ·)) (hl : gs.length ≤ 1048576) :
    Calls Tryz.prog 94 #[.slice (some ⟨g, o, none⟩) gs.length c, .int .i64 x] w fun e w' => ∃ fnd, e = .returned (.tuple #[.int .i64 (cntL gs x : Nat), .bool fnd]) ∧ ∃ m, w' = w.drewN m := by
  have sa := h.small
  refine (AnyG.slices_BinarySearch_int Tryz.searchN g o gs.length c gs x w (Nat.le_refl _) (by omega) (fun j hj => ?_) (by rw [List.take_of_length_le (Nat.le_refl _)]; exact hs.imp (fun h => by omega))).mono ?_
  · obtain ⟨b, q, e, hlt, hc⟩ := en1_cells h (by omega)
    cases e
    rw [List.getD_eq_getElem?_getD, List.getElem?_eq_getElem hj]
    exact hc j _ (List.getElem?_eq_getElem hj)
  · rintro e w' ⟨rfl, hq⟩
    exact ⟨(gs.take gs.length).contains x, by rw [List.take_of_length_le (Nat.le_refl gs.length)]; rfl, hq⟩
set_option maxHeartbeats 1000000 in
set_option maxRecDepth 100000 in
/-- slices.Insert at the list's end. -/
theorem inE_I (w : World) (base : Nat) (A : Option Addr) (c : Nat) (xs : List Int) (own : w.ownsRow base 2 1 (.slice A xs.length c) xs.length (xs.flatMap en1)) (hbase : base ≤ w.heap.size) (vb : Nat) (hln : xs.length ≤ 1048576) (x : Int)
    (hv : w.cell? ⟨vb, 0, none⟩ = some (.int .i64 x)) :
    Calls Tryz.prog 95 #[.slice A xs.length c, .int .i64 xs.length, .slice (some ⟨vb, 0, none⟩) (1 : Nat) 1] w fun e w' =>
      ∃ A' c', e = .returned (.slice A' (xs.length + 1) c') ∧ Below base w w' ∧ w'.ownsRow base 2 1 (.slice A' (xs.length + 1) c') (xs.length + 1) ((xs ++ [x]).flatMap en1) := by
  obtain ⟨hc1, hc2⟩ := own_caps own
  have HO := hid own
  have HV := hid hv
  have HB := hid hbase
  have hFL := hid (flat_one xs x)
  have hnn : (xs.length : Int).toNat = xs.length := Int.toNat_natCast _
  have hne : ¬ ((1 : Int) = 0) := by omega
  have hnil := own_nilcase own
  clear own hv hbase
  rcases hnil with ⟨rfl, rfl⟩ | hA
  · have h0 : xs.length = 0 := by omega
    obtain rfl : xs = [] := List.eq_nil_of_length_eq_zero h0
    clear h0 hc1 hc2
    simp only [List.length_nil]
    go_enter Tryz.func95, Tryz.ntmps95
    go_wp2_with (at_builtin; refine app_many rfl _ _ 26 rfl base 2 (.int .i64 0) 1 8 Tryz.underlying26 (by kernel_rfl) rfl (by decide) _ 0 [] rfl HO.out (some ⟨vb, 0, none⟩) 1 1 [.int .i64 x] rfl ?c1 ?c6 ?c2 ?c3 ?c4 (by decide) HB.out ?_)
    case c1 => rfl
    case c6 => exact fun _ => ⟨vb, 0, rfl, fun j u hu => by
        have : j < 1 := (List.getElem?_eq_some_iff.1 hu).1
        obtain rfl : j = 0 := by omega
        cases hu
        exact HV.out⟩
    case c2 => intro u hu; simp at hu; rcases hu with rfl; rfl
    case c3 => exact fun h => absurd h (by omega)
    case c4 => omega
    intro v1 w1 own1 hg1 hat
    obtain ⟨A1, c1, rfl⟩ := own_slice own1
    have Ho := hid own1
    have Hg := hid hg1
    clear own1 hg1 hat
    go_wp2_with fail
    go_ret
    exact ⟨A1, c1, rfl, (Below.refl base w).grown Hg.out HB.out (fun j hj => by simp [Value.ownBlock] at hj), Ho.out⟩
  · have hcl : xs.length ≤ c := hc1
    by_cases hcc : c = xs.length
    · subst hcc
      go_enter Tryz.func95, Tryz.ntmps95
      go_wp2_with (at_builtin; refine app_many rfl _ _ 26 rfl base 2 (.int .i64 0) 1 8 Tryz.underlying26 (by kernel_rfl) rfl (by decide) _ xs.length (xs.flatMap en1) rfl HO.out (some ⟨vb, 0, none⟩) 1 1 [.int .i64 x] rfl ?c1 ?c6 ?c2 ?c3 ?c4 (by decide) HB.out ?_)
      case c1 => rfl
      case c6 => exact fun _ => ⟨vb, 0, rfl, fun j u hu => by
          have : j < 1 := (List.getElem?_eq_some_iff.1 hu).1
          obtain rfl : j = 0 := by omega
          cases hu
          exact HV.out⟩
      case c2 => intro u hu; simp at hu; rcases hu with rfl; rfl
      case c3 => exact fun h => absurd h (by omega)
      case c4 => omega
      intro v1 w1 own1 hg1 hat
      obtain ⟨A1, c1, rfl⟩ := own_slice own1
      have Ho := hid own1
      have Hg := hid hg1
      clear own1 hg1 hat
      go_wp2_with fail
      go_ret
      refine ⟨A1, c1, rfl, (Below.refl base w).grown Hg.out HB.out (fun j hj => ?_), by rw [hFL.out]; exact Ho.out⟩
      rcases HO.out.2 with ⟨h1, h2⟩ | ⟨g, cap, cur, h1, h2, _⟩
      · injection h1 with h3; subst h3; simp [Value.ownBlock] at hj
      · injection h1 with h3; subst h3; simp [Value.ownBlock] at hj; omega
    · have hcc2 : ¬ (xs.length = c) := fun e => hcc e.symm
      go_enter Tryz.func95, Tryz.ntmps95
      go_wp2_with (at_builtin; refine app_many rfl _ _ 26 rfl base 2 (.int .i64 0) 1 8 Tryz.underlying26 (by kernel_rfl) rfl (by decide) _ xs.length (xs.flatMap en1) rfl HO.out (some ⟨vb, 0, none⟩) 1 1 [.int .i64 x] rfl ?c1 ?c6 ?c2 ?c3 ?c4 (by decide) HB.out ?_)
      case c1 => rfl
      case c6 => exact fun _ => ⟨vb, 0, rfl, fun j u hu => by
          have : j < 1 := (List.getElem?_eq_some_iff.1 hu).1
          obtain rfl : j = 0 := by omega
          cases hu
          exact HV.out⟩
      case c2 => intro u hu; simp at hu; rcases hu with rfl; rfl
      case c3 => exact fun h => absurd h (by omega)
      case c4 => omega
      intro v1 w1 own1 hg1 hat
      obtain ⟨A1, c1, rfl⟩ := own_slice own1
      have Ho := hid own1
      have Hg := hid hg1
      clear own1 hg1 hat
      go_wp2_with fail
      go_ret
      refine ⟨A1, c1, rfl, (Below.refl base w).grown Hg.out HB.out (fun j hj => ?_), by rw [hFL.out]; exact Ho.out⟩
      rcases HO.out.2 with ⟨h1, h2⟩ | ⟨g, cap, cur, h1, h2, _⟩
      · injection h1 with h3; subst h3; simp [Value.ownBlock] at hj
      · injection h1 with h3; subst h3; simp [Value.ownBlock] at hj; omega
theorem inA_I (w : World) (base : Nat) (A : Option Addr) (c : Nat) (xs : List Int) (own : w.ownsRow base 2 1 (.slice A xs.length c) xs.length (xs.flatMap en1)) (hbase : base ≤ w.heap.size) (i vb : Nat) (hi : i ≤ xs.length) (hln : xs.length ≤ 1048576) (x : Int) (base2 : Nat)
    (vown : w.ownsRow base2 2 1 (.slice (some ⟨vb, 0, none⟩) (1 : Nat) 1) 1 [.int .i64 x]) (hne : ∀ a, A = some a → vb ≠ a.block) (m : Nat) (hm : m = xs.length) :
    Calls Tryz.prog 95 #[.slice A m c, .int .i64 i, .slice (some ⟨vb, 0, none⟩) (1 : Nat) 1] w fun e w' =>
      ∃ A' c', e = .returned (.slice A' (m + 1) c') ∧ Below base w w' ∧ w'.ownsRow base 2 1 (.slice A' (m + 1) c') (m + 1) ((xs.take i ++ [x] ++ xs.drop i).flatMap en1) := by
  subst hm
  by_cases h : i < xs.length
  · refine (inN_I w base A c xs own hbase i vb h (by omega) x base2 vown hne).mono ?_
    rintro e w' ⟨A', c', h1, h2, h3, _⟩
    exact ⟨A', c', h1, h2, h3⟩
  · obtain rfl : i = xs.length := by omega
    have hv : w.cell? ⟨vb, 0, none⟩ = some (.int .i64 x) := by rw [vown.cellAt 0 (by omega)]; rfl
    rw [List.take_of_length_le (Nat.le_refl _), List.drop_of_length_le (Nat.le_refl _), List.append_nil]
    exact inE_I w base A c xs own hbase vb hln x hv
set_option maxHeartbeats 1000000 in
set_option maxRecDepth 100000 in
/-- A further gap: the program's. -/
theorem withGap_I (g o c : Nat) (gs : List Int) (x : Int) (w : World) (h : SlA en1 1 w (some ⟨g, o, none⟩) gs) (hs : gs.Pairwise (· < ·)) (hl : gs.length ≤ 1000000) (m : Nat) (hm : m = gs.length) :
    Calls Tryz.prog 66 #[.slice (some ⟨g, o, none⟩) m c, .int .i64 x] w fun e w' => ∃ g' c', e = .returned (.slice (some ⟨g', 0, none⟩) (m + 1) c') ∧ Below w.heap.size w w' ∧ w'.ownsRow w.heap.size 2 1 (.slice (some ⟨g', 0, none⟩) (m + 1) c') (m + 1) ((insN gs x).flatMap en1) := by
  subst hm
  have HSr := hid (search_I g o c gs x w h hs (by omega))
  have HCl := hid (fun q => clone_en1_I (some ⟨g, o, none⟩) c gs (w.drewN q) (h.below (below_drewN (Below.refl _ _) q)) (by simp) (by omega))
  have hcl := cntL_le gs x
  obtain ⟨k, hk⟩ : ∃ k, cntL gs x = k := ⟨_, rfl⟩
  have HIn := hid (show insN gs x = gs.take k ++ [x] ++ gs.drop k by rw [← hk]; rfl)
  rw [hk] at HSr hcl
  clear h hs hk
  go_enter Tryz.func66, Tryz.ntmps66
  go_wp2_with fail
  refine HSr.out.mono ?_
  rintro e w1 ⟨fnd, rfl, q, rfl⟩
  go_wp2_with fail
  refine (HCl.out q).mono ?_
  rintro e w2 ⟨A2, c2, rfl, hb2, own2⟩
  have B2 := hid (below_of (below_drewN (Below.refl w.heap.size w) q) (Nat.le_refl _) hb2)
  have HO2 := hid own2
  have hz := hb2.size
  clear hb2 own2
  go_wp2_with fail
  have b3 : Below w2.heap.size w2 (w2.alloc (.cells #[.int .i64 x] 2)) := (Below.refl _ _).alloc (Nat.le_refl _) _
  have hz2 := B2.out.size
  refine (inA_I (w2.alloc (.cells #[.int .i64 x] 2)) w.heap.size A2 c2 gs (own_step HO2.out b3) (by simp; omega) k w2.heap.size hcl (by omega) x w2.heap.size (World.ownsRow_lit w2 #[.int .i64 x] 1 (Nat.le_refl _) (by simp [maxLen]) (by simp)) (fun a ha => ?_) gs.length rfl).mono ?_
  · rcases HO2.out.2 with ⟨h1, h2⟩ | ⟨g2, cap, cur, h1, h2, h3, _⟩
    · injection h1 with h4; subst h4; cases ha
    · injection h1 with h4; subst h4; cases ha
      have := (Array.getElem?_eq_some_iff.1 h3).1
      dsimp only
      omega
  · rintro e w4 ⟨A4, c4, rfl, hb4, own4⟩
    have B4 := hid ((below_of B2.out hz2 b3).trans hb4)
    have HO4 := hid own4
    clear hb4 own4 b3
    go_wp2_with fail
    go_ret
    rcases HO4.out.2 with ⟨h1, h2⟩ | ⟨g2, cap, cur, h1, h2, h3, _⟩
    · injection h1 with h4 h5; omega
    · injection h1 with h4 h5 h6; subst h4; subst h6
      exact ⟨g2, _, rfl, B4.out, by rw [HIn.out]; exact HO4.out⟩
set_option maxHeartbeats 1000000 in
set_option maxRecDepth 100000 in
theorem with_S (a : Option Addr) (c : Nat) (gs : List Int) (x : Int) (w : World) (h : SlA en1 1 w a gs) (hs : gs.Pairwise (· < ·)) (hn : x ∉ gs) (hl : gs.length ≤ 1000000) (m : Nat) (hm : m = gs.length) :
    Calls Tryz.prog 65 #[.slice a m c, .int .i64 x] w fun e w' => ∃ g' c', e = .returned (.slice (some ⟨g', 0, none⟩) (m + 1) c') ∧ Below w.heap.size w w' ∧ w'.ownsRow w.heap.size 2 1 (.slice (some ⟨g', 0, none⟩) (m + 1) c') (m + 1) ((insN gs x).flatMap en1) := by
  subst hm
  have HC := hid (cnt_lt x gs hs)
  have hcl := cntL_le gs x
  have HN := hid hn
  have HL := hid (insN_len gs x)
  have HA := hid (insR_all (gs := gs) (i := x))
  have HH := hid h
  clear h hs hn
  go_enter Tryz.func65, Tryz.ntmps65
  go_wp2_with fail
  go_loopw [5, 6, 7] (fun o dv kv wr => ∃ (k : Nat) (A : Option Addr) (cc : Nat), k ≤ gs.length ∧ kv = .int .i64 k ∧ dv = .bool (decide (cntL gs x < k)) ∧ o = .slice A (insR gs x k).length cc ∧ wr.ownsRow w.heap.size 2 1 (.slice A (insR gs x k).length cc) (insR gs x k).length ((insR gs x k).flatMap en1) ∧ Below w.heap.size w wr) (fun _ _ kv _ => gs.length - (intOf kv).toNat)
  case atStart =>
    have e0 : insR gs x 0 = [] := by unfold insR; rw [if_pos (Nat.zero_le _)]; rfl
    exact ⟨0, _, _, Nat.zero_le _, rfl, rfl, by rw [e0]; rfl, by rw [e0]; exact World.ownsRow_lit w #[] 0 (Nat.le_refl _) (by simp [maxLen]) (by simp), (Below.refl _ _).alloc (Nat.le_refl _) _⟩
  case round =>
    obtain ⟨k, A, cc, hk, rfl, rfl, rfl, own, hbl⟩ := hrel
    have hz := hbl.size
    have HO := hid own
    have HB := hid hbl
    have hRl : (insR gs x k).length ≤ gs.length + 1 := by
      unfold insR
      split
      · rw [List.length_take]; omega
      · rw [List.length_append, List.length_append, List.length_take, List.length_drop, List.length_take]; simp; omega
    by_cases hlt : k < gs.length
    · have hd : decide ((k : Int) < (gs.length : Int)) = true := by rw [decide_eq_true_iff]; omega
      have eg : gs[k]? = some gs[k] := List.getElem?_eq_getElem hlt
      have hst := insR_step (i := x) eg
      have hcg := HC.out k _ eg
      have hne : gs[k] ≠ x := fun e => HN.out (e ▸ List.getElem_mem hlt)
      obtain ⟨b, q, rfl, hb, hc⟩ := en1_cells HH.out (by omega)
      have hcell := cell_on hbl (hc k _ eg)
      generalize gs[k] = g at *
      have hcella := fun o => cell_on ((Below.refl wr.heap.size wr).alloc (Nat.le_refl _) o) hcell
      by_cases hkc : k = cntL gs x
      · have e1 : decide (cntL gs x < k) = false := by rw [decide_eq_false_iff_not]; omega
        have e2 : decide (x < g) = true := by rw [decide_eq_true_iff]; omega
        have e3 : decide (cntL gs x < k + 1) = true := by rw [decide_eq_true_iff]; omega
        rw [if_pos hkc] at hst
        have HST := hid hst
        have HE3 := hid e3
        clear own hbl hc e3 hcg hst hkc
        go_wp2_with (at_builtin; refine app_one (w := wr) 26 2 (.int .i64 0) 1 8 Tryz.underlying26 (by kernel_rfl) rfl (by decide) w.heap.size _ (insR gs x k).length _ HO.out ?d1 (by decide) hz [.int .i64 x] _ _ rfl rfl rfl _ rfl ?d3 rfl (by intro u hu; simp at hu; rcases hu with rfl; rfl) ?_)
        case d1 => omega
        case d3 => rfl
        intro A5 c5 w5 own5 hb5 hg5 hat5
        have hcell5 := (show w5.cell? ⟨b, q + k, none⟩ = some (.int .i64 g) from (hb5.cell (p := ⟨b, q + k, none⟩) hb).trans hcell)
        have HB5 := hid (HB.out.trans hb5)
        have HO5 := hid own5
        have hz5 := HB5.out.size
        clear own5 hb5 hg5 hat5 hcell hcella
        have hcell5a := fun o => cell_on ((Below.refl w5.heap.size w5).alloc (Nat.le_refl _) o) hcell5
        go_wp2_with (at_builtin; refine app_one (w := w5) 26 2 (.int .i64 0) 1 8 Tryz.underlying26 (by kernel_rfl) rfl (by decide) w.heap.size _ ((insR gs x k).length + 1) _ HO5.out ?d5 (by decide) hz5 [.int .i64 g] _ _ rfl rfl rfl _ rfl ?d6 rfl (by intro u hu; simp at hu; rcases hu with rfl; rfl) ?_)
        case d5 => omega
        case d6 => rfl
        intro A6 c6 w6 own6 hb6 hg6 hat6
        have HB6 := hid (HB5.out.trans hb6)
        have HO6 := hid own6
        clear own6 hb6 hg6 hat6 hcell5 hcell5a
        go_wp2_with fail
        have hl2 : (insR gs x (k + 1)).length = (insR gs x k).length + 1 + 1 := by rw [HST.out]; simp
        exact ⟨⟨k + 1, A6, c6, by omega, by go_num, by rw [HE3.out], by rw [hl2], by rw [hl2, HST.out, flat_one, flat_one, List.append_assoc]; exact HO6.out, HB6.out⟩, by simp [intOf]; omega⟩
      · by_cases hd2 : cntL gs x < k
        · have e1 : decide (cntL gs x < k) = true := by rw [decide_eq_true_iff]; exact hd2
          have e3 : decide (cntL gs x < k + 1) = true := by rw [decide_eq_true_iff]; omega
          rw [if_neg hkc] at hst
          have HST := hid hst
          have HE3 := hid e3
          clear own hbl hc e3 hcg hst
          go_wp2_with (at_builtin; refine app_one (w := wr) 26 2 (.int .i64 0) 1 8 Tryz.underlying26 (by kernel_rfl) rfl (by decide) w.heap.size _ (insR gs x k).length _ HO.out ?d1 (by decide) hz [.int .i64 g] _ _ rfl rfl rfl _ rfl ?d3 rfl (by intro u hu; simp at hu; rcases hu with rfl; rfl) ?_)
          case d1 => omega
          case d3 => rfl
          intro A6 c6 w6 own6 hb6 hg6 hat6
          have HB6 := hid (HB.out.trans hb6)
          have HO6 := hid own6
          clear own6 hb6 hg6 hat6 hcell hcella
          go_wp2_with fail
          have hl2 : (insR gs x (k + 1)).length = (insR gs x k).length + 1 := by rw [HST.out]; simp
          exact ⟨⟨k + 1, A6, c6, by omega, by go_num, by rw [HE3.out], by rw [hl2], by rw [hl2, HST.out, flat_one]; exact HO6.out, HB6.out⟩, by simp [intOf]; omega⟩
        · have e1 : decide (cntL gs x < k) = false := by rw [decide_eq_false_iff_not]; exact hd2
          have e2 : decide (x < g) = false := by rw [decide_eq_false_iff_not]; have := hcg.2 (by omega); omega
          have e3 : decide (cntL gs x < k + 1) = false := by rw [decide_eq_false_iff_not]; omega
          rw [if_neg hkc] at hst
          have HST := hid hst
          have HE3 := hid e3
          clear own hbl hc e3 hcg hst
          go_wp2_with (at_builtin; refine app_one (w := wr) 26 2 (.int .i64 0) 1 8 Tryz.underlying26 (by kernel_rfl) rfl (by decide) w.heap.size _ (insR gs x k).length _ HO.out ?d1 (by decide) hz [.int .i64 g] _ _ rfl rfl rfl _ rfl ?d3 rfl (by intro u hu; simp at hu; rcases hu with rfl; rfl) ?_)
          case d1 => omega
          case d3 => rfl
          intro A6 c6 w6 own6 hb6 hg6 hat6
          have HB6 := hid (HB.out.trans hb6)
          have HO6 := hid own6
          clear own6 hb6 hg6 hat6 hcell hcella
          go_wp2_with fail
          have hl2 : (insR gs x (k + 1)).length = (insR gs x k).length + 1 := by rw [HST.out]; simp
          exact ⟨⟨k + 1, A6, c6, by omega, by go_num, by rw [HE3.out], by rw [hl2], by rw [hl2, HST.out, flat_one]; exact HO6.out, HB6.out⟩, by simp [intOf]; omega⟩
    · obtain rfl : k = gs.length := by omega
      have hd : decide ((gs.length : Int) < (gs.length : Int)) = false := by rw [decide_eq_false_iff_not]; omega
      by_cases hkc : gs.length ≤ cntL gs x
      · have e1 : decide (cntL gs x < gs.length) = false := by rw [decide_eq_false_iff_not]; omega
        have ha := HA.out
        rw [if_pos hkc] at ha
        have HA2 := hid ha
        clear own hbl ha
        go_wp2_with (at_builtin; refine app_one (w := wr) 26 2 (.int .i64 0) 1 8 Tryz.underlying26 (by kernel_rfl) rfl (by decide) w.heap.size _ (insR gs x gs.length).length _ HO.out ?d1 (by decide) hz [.int .i64 x] _ _ rfl rfl rfl _ rfl ?d3 rfl (by intro u hu; simp at hu; rcases hu with rfl; rfl) ?_)
        case d1 => omega
        case d3 => rfl
        intro A6 c6 w6 own6 hb6 hg6 hat6
        have HB6 := hid (HB.out.trans hb6)
        have HO6 := hid own6
        have hl2 : (insR gs x gs.length).length + 1 = gs.length + 1 := by rw [← HL.out, ← HA2.out]; simp
        have HL2 := hid hl2
        clear own6 hb6 hg6 hat6 hl2
        go_wp2_with fail
        go_ret
        have ho := HO6.out
        have e9 := HL2.out
        rw [e9] at ho ⊢
        rcases ho.2 with ⟨h1, h2⟩ | ⟨g2, cap, cur, h1, h2, h3, _⟩
        · injection h1 with h4 h5; omega
        · injection h1 with h4 h5 h6
          subst h4
          exact ⟨g2, c6, rfl, HB6.out, by rw [← HA2.out, flat_one]; exact ho⟩
      · have e1 : decide (cntL gs x < gs.length) = true := by rw [decide_eq_true_iff]; omega
        have ha := HA.out
        rw [if_neg hkc, List.append_nil] at ha
        have HA2 := hid ha
        have hl2 : (insR gs x gs.length).length = gs.length + 1 := by rw [← HL.out, ← HA2.out]
        have HL2 := hid hl2
        clear own hbl ha hl2
        go_wp2_with fail
        go_ret
        have ho := HO.out
        have e9 := HL2.out
        rw [e9] at ho ⊢
        rcases ho.2 with ⟨h1, h2⟩ | ⟨g2, cap, cur, h1, h2, h3, _⟩
        · injection h1 with h4 h5; omega
        · injection h1 with h4 h5 h6
          subst h4
          exact ⟨g2, cc, rfl, HB.out, by rw [← HA2.out]; exact ho⟩
end Go.Proofs.YtmjlnhhgpdcobaaGreat
