/-
  Plain law of building with knocks: what a knock makes fall, which piece is set up next, how it ends. Building with knocks, the reference's: right knocks; what a knock makes fall. Building with knocks, the reference's: how the pieces are set up and lost. SetUp and LostBy, the reference's.
  Building with knocks, the program's: right knocks, what a knock makes fall. Building with knocks, the program's: how a knock happens. SetUp and LostBy, the program's.
  Conditions: none; plain law. the board is right, of 60 pieces at most. the board is right, of 60 pieces at most; the order and the knocks are right. the fields are in their kinds' ranges. the board is right. the board is right, of 60 pieces at most; the knock is right. the fields are in their kinds' ranges.
-/
import Derived.Test.YtebefcfalnkdmaaGreatOrdLaw
import Derived.Test.YtebefcfalnkdmaaGreatSafe
import Derived.Test.YtebefcfalnkdmaaGreatFewS
import Derived.Deep.RegionHeld3
import Derived.Test.YtebefcfalnkdmaaGreatWorsts
import Derived.Test.YtebefcfalnkdmaaGreatCostI
import Derived.Shelf.Abstract
import Derived.BigQuiet
namespace Go.Proofs.YtebefcfalnkdmaaGreat
open Go.RowKit
set_option linter.unusedSimpArgs false
set_option linter.unusedVariables false

/-- How many of the first flags are set. -/
def cU (U : Nat → Bool) : Nat → Nat
  | 0 => 0
  | k + 1 => cU U k + if U k = true then 1 else 0
theorem cU_le (U : Nat → Bool) : ∀ k, cU U k ≤ k
  | 0 => Nat.le_refl _
  | k + 1 => by have := cU_le U k; unfold cU; split <;> omega
theorem cU_congr {U V : Nat → Bool} : ∀ k, (∀ i, i < k → U i = V i) → cU U k = cU V k
  | 0, _ => rfl
  | k + 1, h => by unfold cU; rw [cU_congr k (fun i hi => h i (by omega)), h k (by omega)]
theorem cU_part {U : Nat → Bool} : ∀ {k i : Nat}, i < k → U i = false → cU U k < k
  | 0, i, hi, _ => by omega
  | k + 1, i, hi, h => by
    have h1 := cU_le U k
    unfold cU
    by_cases e : i = k
    · subst e
      rw [h]; simp only [Bool.false_eq_true, if_false]; omega
    · have := cU_part (k := k) (by omega) h
      split <;> omega
theorem cU_full {U : Nat → Bool} {k : Nat} (h : cU U k = k) {i : Nat} (hi : i < k) : U i = true := by
  cases hU : U i with
  | true => rfl
  | false => have := cU_part hi hU; omega
theorem cU_set {U : Nat → Bool} {j : Nat} (hj : U j = false) : ∀ {k : Nat}, j < k → cU (fun y => decide (y = j) || U y) k = cU U k + 1
  | 0, h => by omega
  | k + 1, h => by
    unfold cU
    by_cases e : j = k
    · subst e
      rw [cU_congr j (fun i hi => show (decide (i = j) || U i) = U i by rw [decide_eq_false (by omega), Bool.false_or])]
      simp [hj]
    · rw [cU_set hj (by omega)]
      have : (decide (k = j) || U k) = U k := by rw [decide_eq_false (by omega), Bool.false_or]
      rw [this]
      omega
theorem cU_all {U : Nat → Bool} : ∀ {k : Nat}, (∀ i, i < k → U i = true) → cU U k = k
  | 0, _ => rfl
  | k + 1, h => by unfold cU; rw [cU_all (fun i hi => h i (by omega)), if_pos (h k (by omega))]
theorem cU_none (n : Nat) : cU (fun _ => false) n = 0 := by
  induction n with
  | zero => rfl
  | succ k ih => unfold cU; rw [ih]; rfl
theorem cU_list {n : Nat} : ∀ (gs : List Int), gs.Nodup → (∀ g ∈ gs, 0 ≤ g ∧ g < n) → cU (fun i => decide ((i : Int) ∈ gs)) n = gs.length
  | [], _, _ => by simpa using cU_none n
  | g :: r, hn, hr => by
    have hg := hr g List.mem_cons_self
    rw [List.nodup_cons] at hn
    have ih := cU_list r hn.2 (fun x hx => hr x (List.mem_cons_of_mem _ hx))
    have h1 := cU_set (U := fun i => decide ((i : Int) ∈ r)) (j := g.toNat) (by rw [decide_eq_false_iff_not, Int.toNat_of_nonneg hg.1]; exact hn.1) (k := n) (by omega)
    rw [ih] at h1
    rw [List.length_cons, ← h1]
    refine cU_congr n (fun i _ => ?_)
    rw [Bool.eq_iff_iff]
    simp only [List.mem_cons, decide_eq_true_eq, Bool.or_eq_true]
    constructor
    · rintro (h | h)
      · left; omega
      · exact .inr h
    · rintro (h | h)
      · left; omega
      · exact .inr h
/-- The numbers whose flag is set. -/
def stL (U : Nat → Bool) (n : Nat) : List Nat := (List.range n).filter U
theorem stL_succ (U : Nat → Bool) (n : Nat) : stL U (n + 1) = stL U n ++ if U n = true then [n] else [] := by
  unfold stL
  rw [List.range_succ, List.filter_append]
  congr 1
  by_cases h : U n = true
  · rw [if_pos h, List.filter_cons_of_pos h]; rfl
  · rw [if_neg h, List.filter_cons_of_neg h]; rfl
theorem stL_len (U : Nat → Bool) : ∀ n, (stL U n).length = cU U n
  | 0 => rfl
  | n + 1 => by
    rw [stL_succ, List.length_append, stL_len U n]
    show cU U n + _ = cU U n + _
    split <;> rfl
theorem stL_mem {U : Nat → Bool} {n i : Nat} : i ∈ stL U n ↔ i < n ∧ U i = true := by
  unfold stL
  rw [List.mem_filter, List.mem_range]
theorem stL_rank {U : Nat → Bool} {p : Nat} (hp : U p = true) : ∀ {n : Nat}, p < n → (stL U n)[cU U p]? = some p
  | 0, h => by omega
  | n + 1, h => by
    rw [stL_succ]
    by_cases e : p = n
    · subst e
      rw [List.getElem?_append_right (by rw [stL_len]; exact Nat.le_refl _), stL_len, Nat.sub_self, if_pos hp]
      rfl
    · have h1 := stL_rank hp (n := n) (by omega)
      rw [List.getElem?_append_left (List.getElem?_eq_some_iff.1 h1).1]
      exact h1
theorem rank_lt {U : Nat → Bool} {p n : Nat} (hp : U p = true) (h : p < n) : cU U p < cU U n := by
  rw [← stL_len U n]
  exact (List.getElem?_eq_some_iff.1 (stL_rank hp h)).1
theorem stL_nodup (U : Nat → Bool) (n : Nat) : (stL U n).Nodup := List.nodup_range.sublist List.filter_sublist
theorem stL_at {U : Nat → Bool} {n i j : Nat} (h : (stL U n)[i]? = some j) : j < n ∧ U j = true ∧ cU U j = i := by
  have hm := stL_mem.1 (List.mem_of_getElem? h)
  refine ⟨hm.1, hm.2, ?_⟩
  have h2 := stL_rank hm.2 hm.1
  obtain ⟨l1, e1⟩ := List.getElem?_eq_some_iff.1 h
  obtain ⟨l2, e2⟩ := List.getElem?_eq_some_iff.1 h2
  have hp := List.pairwise_iff_getElem.1 (stL_nodup U n)
  rcases Nat.lt_trichotomy (cU U j) i with hl | hl | hl
  · exact absurd (e2.trans e1.symm) (hp _ _ l2 l1 hl)
  · exact hl
  · exact absurd (e1.trans e2.symm) (hp _ _ l1 l2 hl)
/-- .. as whole numbers. -/
def zL (U : Nat → Bool) (n : Nat) : List Int := (stL U n).map (fun i : Nat => (i : Int))
theorem zL_len (U : Nat → Bool) (n : Nat) : (zL U n).length = cU U n := by unfold zL; rw [List.length_map, stL_len]
theorem zL_mem {U : Nat → Bool} {n : Nat} {g : Int} (h : g ∈ zL U n) : 0 ≤ g ∧ g < n ∧ U g.toNat = true := by
  unfold zL at h
  obtain ⟨i, hi, rfl⟩ := List.mem_map.1 h
  have := stL_mem.1 hi
  exact ⟨by omega, by omega, by rw [Int.toNat_natCast]; exact this.2⟩
theorem zL_in {U : Nat → Bool} {n i : Nat} (hi : i < n) : (i : Int) ∈ zL U n ↔ U i = true := by
  constructor
  · intro h
    have := (zL_mem h).2.2
    rwa [Int.toNat_natCast] at this
  · intro h
    exact List.mem_map.2 ⟨i, stL_mem.2 ⟨hi, h⟩, rfl⟩
theorem zL_succ (U : Nat → Bool) (n : Nat) : zL U (n + 1) = zL U n ++ if U n = true then [(n : Int)] else [] := by
  unfold zL
  rw [stL_succ, List.map_append]
  split <;> rfl
theorem zL_nodup (U : Nat → Bool) (n : Nat) : (zL U n).Nodup := by
  unfold zL
  unfold List.Nodup
  rw [List.pairwise_map]
  exact (stL_nodup U n).imp (fun h e => h (by omega))
/-- The numbers that fall, of those that stand. -/
def goneL (F : Nat → Nat) (L : List Nat) : Nat → List Nat
  | 0 => []
  | k + 1 => goneL F L k ++ if F k < big then [L[k]?.getD 0] else []
theorem gone_len (F : Nat → Nat) (L : List Nat) : ∀ k, (goneL F L k).length = cntF F k
  | 0 => rfl
  | k + 1 => by
    unfold goneL
    rw [List.length_append, gone_len F L k]
    show _ = cntF F k + _
    split <;> rfl
theorem gone_mem {F : Nat → Nat} {L : List Nat} {j : Nat} : ∀ {k : Nat}, k ≤ L.length → (j ∈ goneL F L k ↔ ∃ i, i < k ∧ L[i]? = some j ∧ F i < big)
  | 0, _ => by simp [goneL]
  | k + 1, hk => by
    have ih := gone_mem (F := F) (L := L) (j := j) (k := k) (by omega)
    have e : L[k]? = some (L[k]'(by omega)) := List.getElem?_eq_getElem _
    unfold goneL
    rw [List.mem_append, ih]
    constructor
    · rintro (⟨i, h1, h2⟩ | h)
      · exact ⟨i, by omega, h2⟩
      · split at h
        · rename_i hF
          rw [List.mem_singleton, e] at h
          exact ⟨k, by omega, by rw [e, h]; rfl, hF⟩
        · cases h
    · rintro ⟨i, h1, h2, h3⟩
      by_cases hi : i = k
      · subst hi
        right
        rw [if_pos h3, h2]
        exact List.mem_singleton.2 rfl
      · exact .inl ⟨i, by omega, h2, h3⟩
/-- Flags without those of a list. -/
def offU (U : Nat → Bool) (l : List Nat) (j : Nat) : Bool := U j && !decide (j ∈ l)
theorem off_nil (U : Nat → Bool) : offU U [] = U := by
  funext j
  simp [offU]
theorem off_snoc (U : Nat → Bool) (l : List Nat) (a : Nat) : offU U (l ++ [a]) = fun y => offU U l y && !decide (y = a) := by
  funext j
  unfold offU
  simp only [List.mem_append, List.mem_singleton, Bool.decide_or, Bool.not_or, Bool.and_assoc]
theorem cU_clear {U : Nat → Bool} {j : Nat} (hj : U j = true) : ∀ {k : Nat}, j < k → cU (fun y => U y && !decide (y = j)) k + 1 = cU U k
  | 0, h => absurd h (by omega)
  | k + 1, h => by
    by_cases e : j = k
    · subst e
      show cU _ j + _ + 1 = cU U j + _
      rw [cU_congr (U := fun y => U y && !decide (y = j)) (V := U) j (fun i hi => show (U i && !decide (i = j)) = U i by rw [decide_eq_false (by omega), Bool.not_false, Bool.and_true])]
      simp [hj]
    · have ih := cU_clear hj (k := k) (by omega)
      have : (U k && !decide (k = j)) = U k := by rw [decide_eq_false (by omega), Bool.not_false, Bool.and_true]
      show cU _ k + (if (U k && !decide (k = j)) = true then 1 else 0) + 1 = cU U k + _
      rw [this]
      omega
theorem gone_off {F : Nat → Nat} {U : Nat → Bool} {n : Nat} : ∀ k, k ≤ cU U n → cU (offU U (goneL F (stL U n) k)) n + cntF F k = cU U n
  | 0, _ => by show cU (offU U []) n + 0 = _; rw [off_nil]; rfl
  | k + 1, hk => by
    have ih := gone_off (F := F) (U := U) (n := n) k (by omega)
    have hl := stL_len U n
    have e : (stL U n)[k]? = some ((stL U n)[k]'(by omega)) := List.getElem?_eq_getElem _
    have ha := stL_at e
    have hc : cntF F (k + 1) = cntF F k + if F k < big then 1 else 0 := rfl
    have hg : goneL F (stL U n) (k + 1) = goneL F (stL U n) k ++ if F k < big then [(stL U n)[k]?.getD 0] else [] := rfl
    by_cases hF : F k < big
    · rw [if_pos hF] at hc hg
      rw [e] at hg
      rw [hg, Option.getD_some, off_snoc, hc]
      have h1 : offU U (goneL F (stL U n) k) ((stL U n)[k]'(by omega)) = true := by
        unfold offU
        rw [ha.2.1, Bool.true_and, Bool.not_eq_true', decide_eq_false_iff_not]
        intro hm
        obtain ⟨i, hi, h2, _⟩ := (gone_mem (by omega)).1 hm
        have := (stL_at h2).2.2
        have := ha.2.2
        omega
      have h2 := cU_clear h1 ha.1
      omega
    · rw [if_neg hF, Nat.add_zero] at hc
      rw [if_neg hF, List.append_nil] at hg
      rw [hc, hg]
      exact ih
--B
/-- The board of the pieces that stand. -/
def selP (U : Nat → Bool) (xs : List Pc) : List Pc := someL (zL U xs.length) 0 xs
theorem some_congr {g1 g2 : List Int} : ∀ (l : List Pc) (i : Nat), (∀ j, i ≤ j → j < i + l.length → g1.any (isN (j : Int)) = g2.any (isN (j : Int))) → someL g1 i l = someL g2 i l
  | [], _, _ => rfl
  | p :: l, i, h => by
    unfold someL
    rw [some_congr l (i + 1) (fun j h1 h2 => h j (by omega) (by simp; omega)), h i (Nat.le_refl _) (by simp)]
theorem zL_any {U : Nat → Bool} {n i : Nat} (h : i < n) : (zL U n).any (isN (i : Int)) = U i := by
  cases hU : U i with
  | true => exact any_isN.2 ((zL_in h).2 hU)
  | false =>
    cases hh : (zL U n).any (isN (i : Int)) with
    | false => rfl
    | true => rw [(zL_in h).1 (any_isN.1 hh)] at hU; cases hU
theorem sel_of {gs : List Int} {U : Nat → Bool} {xs : List Pc} (h : ∀ i, i < xs.length → gs.any (isN (i : Int)) = U i) : someL gs 0 xs = selP U xs :=
  some_congr xs 0 (fun j _ hj => by rw [zL_any (by omega)]; exact h j (by omega))
theorem fm_at {α β : Type} {f : α → Option β} : ∀ (l : List α) (h : ∀ x ∈ l, ∃ y, f x = some y) (i : Nat), (l.filterMap f).length = l.length ∧ (l.filterMap f)[i]? = (l[i]?).bind f
  | [], _, _ => ⟨rfl, rfl⟩
  | a :: r, h, i => by
    obtain ⟨y, hy⟩ := h a List.mem_cons_self
    rw [List.filterMap_cons_some hy]
    have ih := fun i => fm_at r (fun x hx => h x (List.mem_cons_of_mem _ hx)) i
    refine ⟨by rw [List.length_cons, List.length_cons, (ih 0).1], ?_⟩
    rcases i with _ | i
    · simp [hy]
    · simpa using (ih i).2
theorem sel_map (U : Nat → Bool) (xs : List Pc) : selP U xs = (stL U xs.length).filterMap (fun j => xs[j]?) := by
  unfold selP
  rw [some_map _ xs xs 0 (fun j hj => by rw [Nat.zero_add])]
  have e : (List.range xs.length).filter (fun j => (zL U xs.length).any (isN ((0 + j : Nat) : Int))) = stL U xs.length := by
    unfold stL
    refine List.filter_congr (fun j hj => ?_)
    rw [Nat.zero_add, zL_any (List.mem_range.1 hj)]
  rw [e]
  congr 1
  funext j
  rw [Nat.zero_add]
theorem sel_some {U : Nat → Bool} {xs : List Pc} : ∀ j ∈ stL U xs.length, ∃ y, (fun j : Nat => xs[j]?) j = some y := fun j hj =>
  ⟨_, List.getElem?_eq_getElem (stL_mem.1 hj).1⟩
theorem sel_len (U : Nat → Bool) (xs : List Pc) : (selP U xs).length = cU U xs.length := by rw [sel_map, (fm_at _ sel_some 0).1, stL_len]
theorem sel_at {U : Nat → Bool} {xs : List Pc} {i j : Nat} (h : (stL U xs.length)[i]? = some j) : (selP U xs)[i]? = xs[j]? := by
  rw [sel_map, (fm_at _ sel_some i).2, h]
  rfl
theorem only_sel (U : Nat → Bool) (xs : List Pc) : onlyL xs (zL U xs.length) = selP U xs := by
  rw [sel_map]
  unfold onlyL zL
  rw [List.filterMap_map]
  congr 1
theorem sel_ok {U : Nat → Bool} {xs : List Pc} (h : BrdOk xs) : BrdOk (selP U xs) := h.part (some_sub _ _ _)
theorem sel_find {U : Nat → Bool} {xs : List Pc} (h : BrdOk xs) {p : Nat} {q : Pc} (hp : U p = true) (hq : xs[p]? = some q) : idxOf (atC q.x q.y) (selP U xs) = (cU U p : Nat) := by
  have hl := (List.getElem?_eq_some_iff.1 hq).1
  exact place_of (sel_ok h).one ((sel_at (stL_rank hp hl)).trans hq)
/-- What a knock makes fall. -/
def knockL (xs : List Pc) (U : Nat → Bool) (q : Kn) : List Nat :=
  if U q.pi.toNat = true then goneL (Fal (boOf (selP U xs)) (one1 (cU U q.pi.toNat) q.sd.toNat)) (stL U xs.length) (cU U xs.length) else []
theorem knock_cnt (xs : List Pc) (U : Nat → Bool) (q : Kn) : cU (offU U (knockL xs U q)) xs.length + (knockL xs U q).length = cU U xs.length := by
  unfold knockL
  split
  · rw [gone_len]; exact gone_off _ (Nat.le_refl _)
  · rw [off_nil]; rfl
/-- How far a board is built. -/
structure BSt where
  U : Nat → Bool
  sets : Nat
  lost : List Int
def setB (ord : List Int) (s : BSt) : Option BSt := match ord.find? (fun g => !s.U g.toNat) with
  | some g => some ⟨fun y => decide (y = g.toNat) || s.U y, s.sets + 1, s.lost⟩
  | none => none
def knkB (xs : List Pc) (s : BSt) (q : Kn) : BSt := ⟨offU s.U (knockL xs s.U q), s.sets, s.lost ++ [((knockL xs s.U q).length : Int)]⟩
def stepB (xs : List Pc) (ord : List Int) (kn : List Kn) (s : BSt) : Option BSt := match kn[s.lost.length]? with
  | some q => if q.af = (cU s.U xs.length : Int) then some (knkB xs s q) else setB ord s
  | none => setB ord s
def muB (n K : Nat) (s : BSt) : Nat := (K - s.lost.length) * (n + 1) + (n - cU s.U n)
def bldR (xs : List Pc) (ord : List Int) (kn : List Kn) : Nat → BSt → BSt
  | 0, s => s
  | f + 1, s => match stepB xs ord kn s with
    | some t => bldR xs ord kn f t
    | none => s
theorem bld_go {xs : List Pc} {ord : List Int} {kn : List Kn} {f : Nat} {s t : BSt} (h : stepB xs ord kn s = some t) : bldR xs ord kn (f + 1) s = bldR xs ord kn f t := by
  conv => lhs; unfold bldR
  rw [h]
theorem bld_end {xs : List Pc} {ord : List Int} {kn : List Kn} {s : BSt} (h : stepB xs ord kn s = none) : ∀ f, bldR xs ord kn f s = s
  | 0 => rfl
  | f + 1 => by unfold bldR; rw [h]
/-- A right order. -/
structure OrdOk (n : Nat) (ord : List Int) : Prop where
  len : ord.length = n
  nd : ord.Nodup
  rng : ∀ g ∈ ord, 0 ≤ g ∧ g < n
theorem OrdOk.all {n : Nat} {ord : List Int} (h : OrdOk n ord) {i : Nat} (hi : i < n) : (i : Int) ∈ ord := by
  have h1 := cU_list (n := n) ord h.nd h.rng
  rw [h.len] at h1
  exact of_decide_eq_true (cU_full h1 hi)
theorem set_some {n : Nat} {ord : List Int} {s t : BSt} (h : OrdOk n ord) (hs : setB ord s = some t) : ∃ i : Nat, i < n ∧ ord.find? (fun g => !s.U g.toNat) = some (i : Int) ∧ s.U i = false ∧ t = ⟨fun y => decide (y = i) || s.U y, s.sets + 1, s.lost⟩ := by
  unfold setB at hs
  split at hs
  · rename_i g hg
    injection hs with hs
    have hm := h.rng g (List.mem_of_find?_eq_some hg)
    have hp := List.find?_some hg
    obtain ⟨i, rfl⟩ : ∃ i : Nat, g = i := ⟨g.toNat, by omega⟩
    rw [Int.toNat_natCast] at hp hs
    exact ⟨i, by omega, hg, by simpa using hp, hs.symm⟩
  · cases hs
theorem set_none {n : Nat} {ord : List Int} {s : BSt} (h : OrdOk n ord) : setB ord s = none ↔ cU s.U n = n := by
  unfold setB
  constructor
  · intro hs
    split at hs
    · cases hs
    · rename_i hf
      rw [List.find?_eq_none] at hf
      by_cases e : cU s.U n = n
      · exact e
      · exfalso
        refine e (cU_all (fun i hi => ?_))
        have := hf _ (h.all hi)
        simpa using this
  · intro hs
    have hf : ord.find? (fun g => !s.U g.toNat) = none := by
      rw [List.find?_eq_none]
      intro g hg
      have hm := h.rng g hg
      rw [cU_full hs (i := g.toNat) (by omega)]
      simp
    rw [hf]
theorem mu_set {n K : Nat} {s : BSt} {i : Nat} (hi : i < n) (h : s.U i = false) : muB n K ⟨fun y => decide (y = i) || s.U y, s.sets + 1, s.lost⟩ + 1 = muB n K s := by
  unfold muB
  dsimp only
  rw [cU_set h hi]
  have := cU_part hi h
  omega
theorem mu_knk {xs : List Pc} {K : Nat} {s : BSt} {q : Kn} (h : s.lost.length < K) : muB xs.length K (knkB xs s q) < muB xs.length K s := by
  unfold muB knkB
  dsimp only
  rw [List.length_append, List.length_singleton]
  have h1 := cU_le s.U xs.length
  have h2 : (K - s.lost.length) = (K - (s.lost.length + 1)) + 1 := by omega
  rw [h2, Nat.add_mul]
  omega
def knOk (n : Int) (q : Kn) : Bool := inB q.af 0 n && (inB q.pi 0 (n - 1) && inB q.sd 0 3)
def plainK (n : Int) (kn : List Kn) : Bool := kn.all (knOk n) && decide (kn.length ≤ 60)
theorem plain_false {n : Int} {kn : List Kn} {k : Nat} {q : Kn} (hk : kn[k]? = some q) (h : knOk n q = false) : plainK n kn = false := by
  unfold plainK
  rw [show kn.all (knOk n) = false by rw [List.all_eq_false]; exact ⟨q, List.mem_of_getElem? hk, by simp [h]⟩, Bool.false_and]
theorem plain_step {n : Int} {kn : List Kn} {k : Nat} {q : Kn} (hk : kn[k]? = some q) (h : knOk n q = true) (ha : (kn.take k).all (knOk n) = true) : (kn.take (k + 1)).all (knOk n) = true := by
  rw [List.take_add_one, hk, Option.toList, List.all_append, ha, List.all_cons, h]; rfl
set_option maxHeartbeats 1000000 in
theorem plainK_S (a : Option Addr) (c : Nat) (kn : List Kn) (n : Int) (w : World) (h : SlA Kn.enc 3 w a kn) (ok : ∀ p ∈ kn, p.Ok) (hn : 0 ≤ n ∧ n ≤ 1048576) :
    Calls Tryz.prog 71 #[.slice a kn.length c, .int .i64 n] w fun e w' => e = .returned (.bool (plainK n kn)) ∧ w = w' := by
  have sa := h.small
  have wn : IntKind.i64.wrap (n - 1) = n - 1 := IntWalk.i64_in _ (by omega)
  have Hc := hid h.cells
  have HOk := hid ok
  clear h ok
  go_enter Tryz.func71, Tryz.ntmps71
  go_wp2_with fail
  go_loopw [5] (fun i wr => ∃ k : Nat, k ≤ kn.length ∧ i = .int .i64 k ∧ (kn.take k).all (knOk n) = true ∧ wr = w) (fun i _ => kn.length - (intOf i).toNat)
  case atStart => exact ⟨0, Nat.zero_le _, rfl, by simp, rfl⟩
  case round =>
    obtain ⟨k, hk, rfl, ha, rfl⟩ := hrel
    have HA := hid ha
    clear ha
    by_cases hlt : k < kn.length
    · obtain ⟨b1, o1, rfl, hb1, hc1⟩ := Hc.out (by omega)
      have e1 : kn[k]? = some kn[k] := List.getElem?_eq_getElem hlt
      have okq := HOk.out _ (List.getElem_mem hlt)
      have hki : (k : Int) < (kn.length : Int) := by omega
      have hd : decide ((k : Int) < (kn.length : Int)) = true := decide_eq_true hki
      have Hq := hid e1
      clear e1
      generalize kn[k] = q at *
      have f0 : wr.cell? ⟨b1, o1 + k * 3, none⟩ = some (.int .i64 q.af) := hc1 k _ Hq.out 0 _ rfl
      have f1 : wr.cell? ⟨b1, o1 + k * 3 + 1, none⟩ = some (.int .i64 q.pi) := hc1 k _ Hq.out 1 _ rfl
      have f2 : wr.cell? ⟨b1, o1 + k * 3 + 2, none⟩ = some (.int .i8 q.sd) := hc1 k _ Hq.out 2 _ rfl
      have wsd : IntKind.i64.wrap q.sd = q.sd := IntWalk.i64_in _ (by have := okq.sd0; have := okq.sd1; omega)
      clear hc1 okq
      have HK := hid (show knOk n q = (inB q.af 0 n && (inB q.pi 0 (n - 1) && inB q.sd 0 3)) from rfl)
      cases h1 : inB q.af 0 n with
      | false =>
        have HF := hid (plain_false (n := n) Hq.out (by rw [HK.out, h1]; rfl))
        go_wp2_with (first | (go_at_call 42; refine (in_S _ _ _ _).mono ?_; rintro e w' ⟨rfl, rfl⟩) | (go_at_call 96; refine (side_S _ _).mono ?_; rintro e w' ⟨rfl, rfl⟩))
        go_ret
        exact ⟨ret_bool HF.out.symm, rfl⟩
      | true =>
        cases h2 : inB q.pi 0 (n - 1) with
        | false =>
          have HF := hid (plain_false (n := n) Hq.out (by rw [HK.out, h1, h2]; rfl))
          go_wp2_with (first | (go_at_call 42; refine (in_S _ _ _ _).mono ?_; rintro e w' ⟨rfl, rfl⟩) | (go_at_call 96; refine (side_S _ _).mono ?_; rintro e w' ⟨rfl, rfl⟩))
          go_ret
          exact ⟨ret_bool HF.out.symm, rfl⟩
        | true =>
          cases h3 : inB q.sd 0 3 with
          | false =>
            have HF := hid (plain_false (n := n) Hq.out (by rw [HK.out, h1, h2, h3]; rfl))
            go_wp2_with (first | (go_at_call 42; refine (in_S _ _ _ _).mono ?_; rintro e w' ⟨rfl, rfl⟩) | (go_at_call 96; refine (side_S _ _).mono ?_; rintro e w' ⟨rfl, rfl⟩))
            go_ret
            exact ⟨ret_bool HF.out.symm, rfl⟩
          | true =>
            have HT := hid (plain_step (n := n) Hq.out (by rw [HK.out, h1, h2, h3]; rfl) HA.out)
            go_wp2_with (first | (go_at_call 42; refine (in_S _ _ _ _).mono ?_; rintro e w' ⟨rfl, rfl⟩) | (go_at_call 96; refine (side_S _ _).mono ?_; rintro e w' ⟨rfl, rfl⟩))
            exact ⟨⟨k + 1, by omega, by go_num, HT.out, trivial⟩, by simp [intOf]; omega⟩
    · obtain rfl : k = kn.length := by omega
      have hd : decide ((kn.length : Int) < (kn.length : Int)) = false := by rw [decide_eq_false_iff_not]; omega
      have HF := hid (show plainK n kn = decide ((kn.length : Int) ≤ 60) by
        have := HA.out
        rw [List.take_length] at this
        unfold plainK
        rw [this, Bool.true_and]
        congr 1
        apply propext
        omega)
      clear Hc
      go_wp2_with fail
      go_ret
      exact ⟨ret_bool HF.out.symm, rfl⟩
/-- A row of whole numbers is handed back. -/
def ResZ (w : World) (R : List Int) (e : Ending) (w' : World) : Prop := ∃ A c, e = .returned (.slice A R.length c) ∧ Below w.heap.size w w' ∧ w'.ownsRow w.heap.size 2 1 (.slice A R.length c) R.length (R.flatMap en1)
def zOf (l : List Nat) : List Int := l.map (fun i : Nat => (i : Int))
theorem zOf_len (l : List Nat) : (zOf l).length = l.length := by unfold zOf; rw [List.length_map]
theorem zOf_snoc (l : List Nat) (i : Nat) : zOf (l ++ [i]) = zOf l ++ [(i : Int)] := by unfold zOf; rw [List.map_append]; rfl
theorem zOf_any (l : List Nat) (i : Nat) : (zOf l).any (isN (i : Int)) = decide (i ∈ l) := by
  rw [Bool.eq_iff_iff, any_isN, decide_eq_true_iff]
  unfold zOf
  rw [List.mem_map]
  constructor
  · rintro ⟨j, hj, e⟩
    have : j = i := by omega
    rw [← this]; exact hj
  · exact fun h => ⟨i, h, rfl⟩
theorem gone_at {F : Nat → Nat} {L : List Nat} {k j : Nat} (h : L[k]? = some j) : goneL F L (k + 1) = goneL F L k ++ if F k < big then [j] else [] := by
  show goneL F L k ++ _ = _
  rw [h, Option.getD_some]
set_option maxRecDepth 100000 in
set_option maxHeartbeats 4000000 in
theorem fallen_S (b : Nat) (wi hi : Int) (a : Option Addr) (c : Nat) (xs : List Pc) (A2 : Option Addr) (c2 : Nat) (gs : List Int) (kb ko : Nat) (q : Kn) (w : World) (hB : BrdOk xs) (hn : xs.length ≤ 60) (hb : BdA w b wi hi a xs.length c) (hx : SlA Pc.enc 5 w a xs) (h2 : SlA en1 1 w A2 gs) (U : Nat → Bool) (hU : ∀ i, i < xs.length → gs.any (isN (i : Int)) = U i)
    (k1 : w.cell? ⟨kb, ko + 1, none⟩ = some (.int .i64 q.pi)) (k2 : w.cell? ⟨kb, ko + 2, none⟩ = some (.int .i8 q.sd)) (hq : 0 ≤ q.pi ∧ q.pi < xs.length ∧ 0 ≤ q.sd ∧ q.sd ≤ 3) (m : Nat) (hm : m = gs.length) :
    Calls Tryz.prog 72 #[.pointer (some ⟨b, 0, none⟩), .slice A2 m c2, .pointer (some ⟨kb, ko, none⟩)] w (ResZ w (zOf (knockL xs U q))) := by
  obtain ⟨P, hP⟩ : ∃ P : Nat, q.pi = P := ⟨q.pi.toNat, by omega⟩
  obtain ⟨S, hS⟩ : ∃ S : Nat, q.sd = S := ⟨q.sd.toNat, by omega⟩
  rw [hP] at k1
  rw [hS] at k2
  have hPn : P < xs.length := by omega
  have hS4 : S < 4 := by omega
  have hPi : (P : Int) < (xs.length : Int) := by omega
  have hKn : knockL xs U q = if U P = true then goneL (Fal (boOf (selP U xs)) (one1 (cU U P) S)) (stL U xs.length) (cU U xs.length) else [] := by unfold knockL; rw [hP, hS, Int.toNat_natCast, Int.toNat_natCast]
  clear hP hS hq
  obtain ⟨W1, hW1⟩ : ∃ W, W = w.alloc (.cells #[] 2) := ⟨_, rfl⟩
  have B1 : Below w.heap.size w W1 := by rw [hW1]; exact (Below.refl _ _).alloc (Nat.le_refl _) _
  have HHas := hid (has_len_S A2 c2 gs (P : Int) W1 (h2.below B1) m hm)
  rw [hU P hPn] at HHas
  have k1' := cell_on B1 k1
  obtain ⟨d, hd⟩ : ∃ d, U P = d := ⟨_, rfl⟩
  rw [hd] at HHas hKn
  have hl0 : W1.heap.size = w.heap.size + 1 := by rw [hW1]; simp
  cases d with
  | false =>
    have HK := hid (hKn.trans (if_neg (by simp)))
    have HB1 := hid B1
    have HO1 := hid (show W1.ownsRow w.heap.size 2 1 (.slice (some ⟨w.heap.size, 0, none⟩) 0 0) 0 [] by rw [hW1]; exact World.ownsRow_lit w #[] 0 (Nat.le_refl _) (by simp [maxLen]) (by simp))
    clear hKn hb hx h2 hU hm hd k1 k2 B1
    go_enter Tryz.func72, Tryz.ntmps72
    go_upto_region 2 with fail
    rw [← hW1]
    clear hW1
    go_wp2_with fail
    refine HHas.out.mono ?_
    rintro e w2 ⟨rfl, hb2⟩
    have B2 := below_of HB1.out HB1.out.size hb2
    have O2 := own_step HO1.out hb2
    clear hb2
    go_wp2_with fail
    go_ret
    rw [HK.out]
    exact ⟨_, _, rfl, B2, O2⟩
  | true =>
    have HK := hid (hKn.trans (if_pos rfl))
    have HSo := hid (fun W (hW : Below w.heap.size w W) => (show Calls Tryz.prog 57 #[.pointer (some ⟨b, 0, none⟩), .slice A2 m c2] W (ResBd W wi hi (selP U xs)) by
      rw [← sel_of hU]
      exact someW_S b wi hi a c xs A2 c2 gs W hB hn (hb.below hW hb.lt) (hx.below hW) (h2.below hW) m hm))
    have hyl := sel_len U xs
    have hrk := rank_lt (U := U) (n := xs.length) hd hPn
    obtain ⟨pb, po, ha, hpb, hpc⟩ := hx.cells (by omega)
    have ep : xs[P]? = some xs[P] := List.getElem?_eq_getElem hPn
    obtain ⟨q0, hq0⟩ : ∃ q0, xs[P] = q0 := ⟨_, rfl⟩
    rw [hq0] at ep
    have hfi := sel_find (U := U) hB hd ep
    have p0 : w.cell? ⟨pb, po + P * 5, none⟩ = some (.int .i8 q0.x) := hpc P _ ep 0 _ rfl
    have p1 : w.cell? ⟨pb, po + P * 5 + 1, none⟩ = some (.int .i8 q0.y) := hpc P _ ep 1 _ rfl
    have p2 := hb.c2
    rw [ha] at p2
    have HHave := hid (fun W (hW : Below w.heap.size w W) => (⟨hb.below hW hb.lt, hx.below hW⟩ : BdA W b wi hi a xs.length c ∧ SlA Pc.enc 5 W a xs))
    have HY := hid (sel_ok (U := U) hB)
    have HAt := hid (fun i j (h : (stL U xs.length)[i]? = some j) => sel_at (U := U) (xs := xs) h)
    have hLl := stL_len U xs.length
    have hLm : ∀ j ∈ stL U xs.length, j < xs.length := fun j hj => (stL_mem.1 hj).1
    have HB := hid hB
    have hcl := cU_le U xs.length
    obtain ⟨ys, hys⟩ : ∃ ys, selP U xs = ys := ⟨_, rfl⟩
    obtain ⟨L, hL⟩ : ∃ L, stL U xs.length = L := ⟨_, rfl⟩
    obtain ⟨K, hK⟩ : ∃ K, cU U P = K := ⟨_, rfl⟩
    obtain ⟨M, hM⟩ : ∃ M, cU U xs.length = M := ⟨_, rfl⟩
    rw [hys] at hyl hfi
    rw [hM] at hyl hrk hLl hcl
    rw [hK] at hfi hrk
    rw [hL] at hLl hLm
    have HK2 := hid (show knockL xs U q = goneL (Fal (boOf ys) (one1 K S)) L M by rw [HK.out, hys, hL, hK, hM])
    rw [hys] at HSo HY
    rw [hys, hL] at HAt
    have HB1 := hid B1
    have HFI := hid hfi
    have HLl := hid hLl
    have HLm := hid hLm
    have HYl := hid hyl
    have hKM : K < M := hrk
    have k2' := k2
    have HO1 := hid (show W1.ownsRow w.heap.size 2 1 (.slice (some ⟨w.heap.size, 0, none⟩) 0 0) 0 [] by rw [hW1]; exact World.ownsRow_lit w #[] 0 (Nat.le_refl _) (by simp [maxLen]) (by simp))
    clear HK hKn hb hx h2 hU hm hd B1 hpc ep hq0 hys hL hK hM hfi hLl hLm hyl hrk
    go_enter Tryz.func72, Tryz.ntmps72
    go_upto_region 2 with fail
    rw [← hW1]
    clear hW1
    go_wp2_with fail
    refine HHas.out.mono ?_
    rintro e w2 ⟨rfl, hb2⟩
    have HB2 := hid (below_of HB1.out HB1.out.size hb2)
    have HB12 := hid hb2
    clear hb2
    go_wp2_with fail
    refine (HSo.out _ HB2.out).mono ?_
    rintro e w3 ⟨A3, c3, rfl, hb3, own3⟩
    have hB3 := below_of HB2.out HB2.out.size hb3
    have hs3 := SlA.of_own Pc.enc_length own3
    obtain ⟨W4, hW4⟩ : ∃ W, W = w3.alloc (.cells #[.int .i8 wi, .int .i8 hi, .slice A3 ys.length c3] 32) := ⟨_, rfl⟩
    have hB34 : Below w3.heap.size w3 W4 := by rw [hW4]; exact (Below.refl _ _).alloc (Nat.le_refl _) _
    have hbd4 : BdA W4 w3.heap.size wi hi A3 ys.length c3 := by rw [hW4]; exact bd_box _ _ _ _ _ _ _
    have hs4 := hs3.below hB34
    have hB4 := below_of hB3 hB3.size hB34
    have HB4 := hid hB4
    have HB14 := hid (below_of HB12.out HB12.out.size (below_of hb3 hb3.size hB34))
    have p0' := cell_on hB4 p0
    have p1' := cell_on hB4 p1
    have p2' := cell_on hB4 p2
    have k1'' := cell_on hB4 k1
    have HH4 := hid (fun W (hW : Below W4.heap.size W4 W) => (⟨hbd4.below hW hbd4.lt, hs4.below hW⟩ : BdA W w3.heap.size wi hi A3 ys.length c3 ∧ SlA Pc.enc 5 W A3 ys))
    have HFi := hid (fun W (hW : Below W4.heap.size W4 W) => find_S w3.heap.size wi hi A3 c3 ys q0.x q0.y W (HH4.out W hW).1 (HH4.out W hW).2)
    rw [HFI.out] at HFi
    clear hb3 own3 hB3 hs3 hB34 hbd4 hs4 hB4 p0 p1 p2 k1 k1'
    go_wp2_with fail
    rw [← hW4]
    clear hW4
    go_region_held3 (fun w' => w'.cell? ⟨b, 2, none⟩ = some (.slice (some ⟨pb, po, none⟩) xs.length c) ∧ w'.cell? ⟨kb, ko + 1, none⟩ = some (.int .i64 P) ∧ w'.cell? ⟨pb, po + P * 5, none⟩ = some (.int .i8 q0.x) ∧ w'.cell? ⟨pb, po + P * 5 + 1, none⟩ = some (.int .i8 q0.y))
      (first | with_reducible exact ⟨p2', k1'', p0', p1'⟩ | with_reducible assumption | exact ⟨cell_on ((Below.refl _ _).drew) p2', cell_on ((Below.refl _ _).drew) k1'', cell_on ((Below.refl _ _).drew) p0', cell_on ((Below.refl _ _).drew) p1'⟩ | exact ⟨cell_on hb5 (cell_on ((Below.refl _ _).drew) p2'), cell_on hb5 (cell_on ((Below.refl _ _).drew) k1''), cell_on hb5 (cell_on ((Below.refl _ _).drew) p0'), cell_on hb5 (cell_on ((Below.refl _ _).drew) p1')⟩)
      (first | (go_at_call 91; refine (HFi.out _ ?hb0).mono ?_; (case hb0 => first | exact (Below.refl _ _).drew | exact Below.refl _ _); rintro e w5 ⟨rfl, hb5⟩))
    have hB45 : Below W4.heap.size W4 w5 := below_of ((Below.refl W4.heap.size W4).drew) (by simp) hb5
    have HB5 := hid (below_of HB4.out HB4.out.size hB45)
    have k25 := cell_on HB5.out k2'
    have wsS : IntKind.i64.wrap (S : Int) = S := IntWalk.i64_in _ (by omega)
    have HFr := hid (from_S w3.heap.size wi hi A3 c3 ys K S w5 HY.out (by have := HYl.out; omega) (HH4.out w5 hB45).1 (HH4.out w5 hB45).2 (by rw [HYl.out]; exact hKM) hS4)
    have HB45 := hid hB45
    have HO5 := hid (show w5.ownsRow w.heap.size 2 1 (.slice (some ⟨w.heap.size, 0, none⟩) 0 0) 0 [] from own_step (own_step HO1.out HB14.out) hB45)
    obtain ⟨F, hF⟩ : ∃ F, Fal (boOf ys) (one1 K S) = F := ⟨_, rfl⟩
    rw [hF] at HFr HK2
    clear hb5 hB45 p0' p1' p2' k1'' hF
    go_wp2_with fail
    refine HFr.out.mono ?_
    rintro e w6 ⟨g, rfl, hb6, hg6, hF6⟩
    have HB6 := hid (below_of HB5.out HB5.out.size hb6)
    have HB46 := hid (below_of HB45.out HB45.out.size hb6)
    have HO6 := hid (own_step HO5.out hb6)
    have HF6 := hid hF6
    have hyl := HYl.out
    have HKf := HK2
    clear hb6 hF6 hg6 k25 HK2
    rw [hyl]
    clear hyl
    go_wp2_with fail
    go_loopw [7, 11] (fun ov iv wr => ∃ (i : Nat) (Ao : Option Addr) (co no : Nat), i ≤ M ∧ iv = .int .i64 i ∧ ov = .slice Ao no co ∧ no = (goneL F L i).length ∧ ((Ao = some ⟨w.heap.size, 0, none⟩ ∧ no = 0 ∧ co = 0 ∧ goneL F L i = []) ∨ wr.ownsRow w6.heap.size 2 1 (.slice Ao no co) no ((zOf (goneL F L i)).flatMap en1)) ∧ Below w6.heap.size w6 wr) (fun _ iv _ => M - (intOf iv).toNat)
    case atStart => exact ⟨0, _, _, _, Nat.zero_le _, rfl, rfl, rfl, .inl ⟨rfl, rfl, rfl, rfl⟩, Below.refl _ _⟩
    case round =>
      obtain ⟨i, Ao, co, no, hiM, rfl, rfl, hno, hown, hbl⟩ := hrel
      have HNO := hid hno
      have HOw := hid hown
      have HBL := hid hbl
      have hz := hbl.size
      have hnoi : no ≤ i := by rw [hno, gone_len]; exact cntF_le _ _
      clear hno hown
      by_cases hlt : i < M
      · have hd : decide ((i : Int) < (M : Int)) = true := by rw [decide_eq_true_iff]; omega
        have hii : (i : Int) < (M : Int) := by omega
        have hfa := HF6.out.below hbl HF6.out.lt
        have g0 := hfa.c0 i (by have := HYl.out; omega)
        have hLi : L[i]? = some (L[i]'(by have := HLl.out; omega)) := List.getElem?_eq_getElem _
        obtain ⟨j, hj⟩ : ∃ j, L[i]'(by have := HLl.out; omega) = j := ⟨_, rfl⟩
        rw [hj] at hLi
        have HLi := hid hLi
        have hga := gone_at (F := F) hLi
        by_cases hF : F i < big
        · rw [if_pos hF] at hga
          have HGA := hid hga
          rw [keyT_lt hF] at g0
          obtain ⟨tk, htk⟩ : ∃ tk, F i / 4 = tk := ⟨_, rfl⟩
          rw [htk] at g0
          have e1 : decide ((tk : Int) ≥ 0) = true := by rw [decide_eq_true_iff]; omega
          have hbw : Below W4.heap.size W4 wr := below_of HB46.out HB46.out.size hbl
          obtain ⟨hbd, hsl⟩ := HH4.out wr hbw
          have x2 := hbd.c2
          rw [HYl.out] at x2
          obtain ⟨b1, o1, hA3, hb1, hc1⟩ := hsl.cells (by have := HYl.out; omega)
          have hjn := HLm.out j (List.mem_of_getElem? hLi)
          have exj : xs[j]? = some xs[j] := List.getElem?_eq_getElem hjn
          obtain ⟨p, hp⟩ : ∃ p, xs[j] = p := ⟨_, rfl⟩
          rw [hp] at exj
          have eyi : ys[i]? = some p := (HAt.out i j hLi).trans exj
          have f0 : wr.cell? ⟨b1, o1 + i * 5, none⟩ = some (.int .i8 p.x) := hc1 i _ eyi 0 _ rfl
          have f1 : wr.cell? ⟨b1, o1 + i * 5 + 1, none⟩ = some (.int .i8 p.y) := hc1 i _ eyi 1 _ rfl
          have HBw := hid (below_of HB6.out HB6.out.size hbl)
          have HFd := hid (find_S b wi hi a c xs p.x p.y wr (HHave.out wr HBw.out).1 (HHave.out wr HBw.out).2)
          rw [place_of HB.out.one exj] at HFd
          have HJ := hid hjn
          subst hA3
          clear hfa hga hF hbd hsl hc1 exj hp eyi hj hLi htk hbl hbw hjn
          go_wp2_with fail
          refine HFd.out.mono ?_
          rintro e w7 ⟨rfl, hb7⟩
          have HB7 := hid (below_of HBL.out hz hb7)
          have hz7 := HB7.out.size
          have hown7 : (∃ ao, Value.slice Ao no co = .slice ao 0 0 ∧ no = 0 ∧ (zOf (goneL F L i)).flatMap en1 = []) ∨ w7.ownsRow w6.heap.size 2 1 (.slice Ao no co) no ((zOf (goneL F L i)).flatMap en1) := by
            rcases HOw.out with ⟨h1, h2, h3, h4⟩ | h
            · exact .inl ⟨Ao, by rw [h2, h3], h2, by rw [h4]; rfl⟩
            · exact .inr (own_step h hb7)
          have HO7 := hid hown7
          clear hb7 hown7
          go_wp2_with (at_builtin; refine app_emp (w := w7) 26 2 (.int .i64 0) 1 8 Tryz.underlying26 (by kernel_rfl) rfl (by decide) w6.heap.size _ no _ HO7.out ?d1 (by decide) hz7 [.int .i64 (j : Int)] _ _ rfl rfl rfl _ rfl ?d3 rfl (by intro u hu; simp at hu; rcases hu with rfl; rfl) ?_)
          case d1 => omega
          case d3 => rfl
          intro A8 c8 w8 own8 hb8
          have HO8 := hid own8
          have HB8 := hid (HB7.out.trans hb8)
          clear own8 hb8
          go_wp2_with fail
          refine ⟨⟨i + 1, A8, c8, no + 1, by omega, by go_num, rfl, ?_, .inr ?_, HB8.out⟩, by simp [intOf]; omega⟩
          · rw [HGA.out, List.length_append, HNO.out]; rfl
          · rw [HGA.out, zOf_snoc, flat_one]; exact HO8.out
        · rw [if_neg hF, List.append_nil] at hga
          have HGA := hid hga
          have g0' : wr.cell? ⟨g, i * 3, none⟩ = some (.int .i64 (-1)) := by rw [g0]; unfold keyT; rw [if_neg hF]
          clear hfa hga hF g0 hj hLi
          go_wp2_with fail
          exact ⟨⟨i + 1, Ao, co, no, by omega, by go_num, rfl, by rw [HGA.out]; exact HNO.out, by rw [HGA.out]; exact HOw.out, HBL.out⟩, by simp [intOf]; omega⟩
      · obtain rfl : i = M := by omega
        have hd : decide ((i : Int) < (i : Int)) = false := by rw [decide_eq_false_iff_not]; omega
        have HBw := hid (below_of HB6.out HB6.out.size hbl)
        go_wp2_with fail
        go_ret
        rw [HKf.out]
        refine ⟨Ao, co, by rw [zOf_len, ← HNO.out]; rfl, HBw.out, ?_⟩
        rw [zOf_len, ← HNO.out]
        rcases HOw.out with ⟨h1, h2, h3, h4⟩ | h
        · rw [h4, h1, h2, h3]
          exact own_step HO6.out hbl
        · exact own_low h (by have := HB6.out.size; omega)
/-- The pieces that stand, as a list. -/
structure StandOk (n : Nat) (U : Nat → Bool) (gs : List Int) : Prop where
  nd : gs.Nodup
  rng : ∀ g ∈ gs, 0 ≤ g ∧ g < n
  iff : ∀ i : Nat, i < n → ((i : Int) ∈ gs ↔ U i = true)
theorem StandOk.len {n : Nat} {U : Nat → Bool} {gs : List Int} (h : StandOk n U gs) : gs.length = cU U n := by
  rw [← cU_list gs h.nd h.rng]
  exact cU_congr n (fun i hi => by rw [Bool.eq_iff_iff, decide_eq_true_iff]; exact h.iff i hi)
theorem StandOk.any {n : Nat} {U : Nat → Bool} {gs : List Int} (h : StandOk n U gs) {i : Nat} (hi : i < n) : gs.any (isN (i : Int)) = U i := by
  rw [Bool.eq_iff_iff, any_isN]; exact h.iff i hi
theorem StandOk.nil (n : Nat) : StandOk n (fun _ => false) [] := ⟨List.nodup_nil, fun g hg => absurd hg List.not_mem_nil, fun i _ => by simp⟩
theorem StandOk.off {n : Nat} {U : Nat → Bool} {gs : List Int} (h : StandOk n U gs) (l : List Nat) : StandOk n (offU U l) (gs.filter (fun g => !(zOf l).any (isN g))) := by
  refine ⟨h.nd.sublist List.filter_sublist, fun g hg => h.rng g (List.mem_filter.1 hg).1, fun i hi => ?_⟩
  rw [List.mem_filter, h.iff i hi, zOf_any]
  unfold offU
  rw [Bool.and_eq_true]
theorem StandOk.set {n : Nat} {U : Nat → Bool} {gs : List Int} (h : StandOk n U gs) {j : Nat} (hj : j < n) (hU : U j = false) : StandOk n (fun y => decide (y = j) || U y) (gs ++ [(j : Int)]) := by
  have hno : (j : Int) ∉ gs := fun hm => by rw [(h.iff j hj).1 hm] at hU; cases hU
  refine ⟨?_, fun g hg => ?_, fun i hi => ?_⟩
  · rw [List.nodup_append]
    refine ⟨h.nd, by simp, fun a ha b hb e => ?_⟩
    rw [List.mem_singleton] at hb
    subst e hb
    exact hno ha
  · rw [List.mem_append, List.mem_singleton] at hg
    rcases hg with hg | rfl
    · exact h.rng g hg
    · omega
  · rw [List.mem_append, List.mem_singleton, h.iff i hi, Bool.or_eq_true, decide_eq_true_iff]
    constructor
    · rintro (h | h)
      · exact .inr h
      · exact .inl (by omega)
    · rintro (h | h)
      · exact .inr (by omega)
      · exact .inl h
/-- Two rows in blocks of their own. -/
def Dj (v u : Value) : Prop := ∀ k, v.ownBlock = some k → u.ownBlock ≠ some k
theorem Dj.symm {v u : Value} (h : Dj v u) : Dj u v := fun k hk e => h k e hk
theorem own_dj {w w1 : World} {b1 : Nat} {e : TypeId} {size n : Nat} {v u : Value} {l : List Value} (h : w.ownsRow b1 e size v n l) (hg : w.grownBy w1 u.ownBlock) (hd : Dj v u) : w1.ownsRow b1 e size v n l := by
  refine h.kept hg ?_
  cases hv : v.ownBlock with
  | none => exact .inl rfl
  | some k => exact .inr (fun e => hd k hv e.symm)
theorem Dj.fresh {w : World} {b1 : Nat} {e : TypeId} {size n : Nat} {v u : Value} {l : List Value} (h : w.ownsRow b1 e size v n l) (hu : ∀ k, u.ownBlock = some k → w.heap.size ≤ k) : Dj v u := fun k hk e => by
  have h1 := (h.lt k hk).2
  have h2 := hu k e
  omega
theorem find_first {p : Int → Bool} : ∀ {l : List Int} {i : Nat} {x : Int}, l[i]? = some x → p x = true → (∀ j, j < i → ∀ g, l[j]? = some g → p g = false) → l.find? p = some x
  | [], i, x, hx, _, _ => by simp at hx
  | a :: r, 0, x, hx, hp, _ => by
    simp only [List.getElem?_cons_zero, Option.some.injEq] at hx
    rw [hx, List.find?_cons_of_pos hp]
  | a :: r, i + 1, x, hx, hp, h => by
    rw [List.getElem?_cons_succ] at hx
    have ha := h 0 (by omega) a rfl
    rw [List.find?_cons_of_neg (by simp [ha])]
    exact find_first hx hp (fun j hj g hg => h (j + 1) (by omega) g (by simpa using hg))
def st0 : BSt := ⟨fun _ => false, 0, []⟩
def siteR (xs : List Pc) (ord : List Int) (kn : List Kn) : BSt := bldR xs ord kn (muB xs.length kn.length st0 + 1) st0
structure BldI (w : World) (xs : List Pc) (ord : List Int) (kn : List Kn) (R : BSt) (wr : World) (s : BSt) (f : Nat) (gs : List Int) (A1 : Option Addr) (c1 : Nat) (A2 : Option Addr) (c2 n1 n2 : Nat) : Prop where
  mu : muB xs.length kn.length s < f
  run : bldR xs ord kn f s = R
  st : StandOk xs.length s.U gs
  sets : s.sets + muB xs.length kn.length s ≤ muB xs.length kn.length st0
  ll : s.lost.length ≤ kn.length
  e1 : n1 = gs.length
  e2 : n2 = s.lost.length
  o1 : wr.ownsRow w.heap.size 2 1 (.slice A1 n1 c1) n1 (gs.flatMap en1)
  o2 : wr.ownsRow w.heap.size 2 1 (.slice A2 n2 c2) n2 (s.lost.flatMap en1)
  dj : Dj (.slice A1 n1 c1) (.slice A2 n2 c2)
  below : Below w.heap.size w wr
theorem BldI.mu_eq {w wr : World} {xs : List Pc} {ord : List Int} {kn : List Kn} {R s : BSt} {f : Nat} {gs : List Int} {A1 A2 : Option Addr} {c1 c2 n1 n2 : Nat} (h : BldI w xs ord kn R wr s f gs A1 c1 A2 c2 n1 n2) : muB xs.length kn.length s = (kn.length - n2) * (xs.length + 1) + (xs.length - n1) := by
  unfold muB
  rw [h.e2, h.e1, h.st.len]
theorem step_knk {xs : List Pc} {ord : List Int} {kn : List Kn} {s : BSt} {q : Kn} (hq : kn[s.lost.length]? = some q) (ha : q.af = (cU s.U xs.length : Int)) : stepB xs ord kn s = some (knkB xs s q) := by
  unfold stepB
  rw [hq]
  exact if_pos ha
theorem step_set {xs : List Pc} {ord : List Int} {kn : List Kn} {s : BSt} (h : ∀ q, kn[s.lost.length]? = some q → q.af ≠ (cU s.U xs.length : Int)) : stepB xs ord kn s = setB ord s := by
  unfold stepB
  split
  · rename_i q hq
    exact if_neg (h q hq)
  · rfl
theorem mu_st0 (n K : Nat) (hn : n ≤ 60) (hK : K ≤ 60) : muB n K st0 ≤ 3720 := by
  unfold muB st0
  dsimp only [List.length_nil]
  have h1 : (K - 0) * (n + 1) ≤ 60 * 61 := Nat.mul_le_mul (by omega) (by omega)
  omega
set_option maxRecDepth 100000 in
set_option maxHeartbeats 8000000 in
theorem build_S (b : Nat) (wi hi : Int) (a : Option Addr) (c : Nat) (xs : List Pc) (a2 : Option Addr) (c2 : Nat) (ord : List Int) (a3 : Option Addr) (c3 : Nat) (kn : List Kn) (w : World) (hB : BrdOk xs) (hn : xs.length ≤ 60) (hb : BdA w b wi hi a xs.length c) (hx : SlA Pc.enc 5 w a xs) (h2 : SlA en1 1 w a2 ord) (h3 : SlA Kn.enc 3 w a3 kn) (hO : OrdOk xs.length ord) (hK : ∀ q ∈ kn, knOk xs.length q = true) (hkl : kn.length ≤ 60) :
    Calls Tryz.prog 51 #[.pointer (some ⟨b, 0, none⟩), .slice a2 ord.length c2, .slice a3 kn.length c3] w fun e w' => ∃ A c, e = .returned (.tuple #[.int .i64 ((siteR xs ord kn).sets : Nat), .slice A (siteR xs ord kn).lost.length c]) ∧ Below w.heap.size w w' ∧ w'.ownsRow w.heap.size 2 1 (.slice A (siteR xs ord kn).lost.length c) (siteR xs ord kn).lost.length ((siteR xs ord kn).lost.flatMap en1) := by
  obtain ⟨R, hR⟩ : ∃ R, siteR xs ord kn = R := ⟨_, rfl⟩
  have HR := hid (show bldR xs ord kn (muB xs.length kn.length st0 + 1) st0 = R from hR)
  rw [hR]
  clear hR
  have HB := hid hB
  have HM0 := hid (mu_st0 xs.length kn.length hn hkl)
  have HHave := hid (fun W (hW : Below w.heap.size w W) => (⟨hb.below hW hb.lt, hx.below hW⟩ : BdA W b wi hi a xs.length c ∧ SlA Pc.enc 5 W a xs))
  have HORow := hid (fun W (hW : Below w.heap.size w W) => h2.below hW)
  have HKRow := hid (fun W (hW : Below w.heap.size w W) => h3.below hW)
  have HO := hid hO
  have HKn := hid hK
  have hol := hO.len
  obtain ⟨N, hN⟩ : ∃ N, xs.length = N := ⟨_, rfl⟩
  have HN := hid hN
  have hN60 : N ≤ 60 := by omega
  rw [hN] at hol
  rw [hol]
  have HOL := hid hol
  clear hB hb hx h2 h3 hO hK hN hol hn
  go_enter Tryz.func51, Tryz.ntmps51
  go_wp2_with fail
  go_loopw [8, 9, 10] (fun sv tv lv wr => ∃ (s : BSt) (f : Nat) (gs : List Int) (A1 : Option Addr) (c1 : Nat) (A2 : Option Addr) (c2 n1 n2 : Nat), sv = .slice A1 n1 c1 ∧ tv = .int .i64 (s.sets : Nat) ∧ lv = .slice A2 n2 c2 ∧ BldI w xs ord kn R wr s f gs A1 c1 A2 c2 n1 n2) (fun sv _ lv _ => (kn.length - lenV lv) * (N + 1) + (N - lenV sv))
  case atStart =>
    refine ⟨st0, _, [], some ⟨w.heap.size, 0, none⟩, 0, some ⟨w.heap.size + 1, 0, none⟩, 0, 0, 0, by simp, rfl, by simp, Nat.lt_succ_self _, HR.out, StandOk.nil _, by show 0 + _ ≤ _; omega, Nat.zero_le _, rfl, rfl, ?_, ?_, ?_, ?_⟩
    · exact own_step (World.ownsRow_lit w #[] 0 (Nat.le_refl _) (by simp [maxLen]) (by simp)) ((Below.refl _ _).alloc (Nat.le_refl _) _)
    · have := World.ownsRow_lit (w.alloc (.cells #[] 2)) (e := 2) (base := w.heap.size) #[] 0 (size := 1) (by simp) (by simp [maxLen]) (by simp)
      show World.ownsRow _ w.heap.size 2 1 (.slice (some ⟨w.heap.size + 1, 0, none⟩) 0 0) 0 []
      simpa using this
    · intro k hk e
      simp only [Value.ownBlock, Option.some.injEq] at hk e
      omega
    · exact ((Below.refl _ _).alloc (Nat.le_refl _) _).alloc (by simp) _
  case round =>
    obtain ⟨s0, f0, gs0, A10, c10, A20, c20, n10, n20, rfl, rfl, rfl, hI0⟩ := hrel
    have HI0 := hid hI0
    obtain ⟨S0, hS0⟩ : ∃ S0, s0.sets = S0 := ⟨_, rfl⟩
    rw [hS0]
    have HS0 := hid hS0
    obtain ⟨mu0, hmu0⟩ : ∃ m, muB xs.length kn.length s0 = m := ⟨_, rfl⟩
    have hmuE := hI0.mu_eq
    rw [hmu0, HN.out] at hmuE
    have HMU := hid hmuE
    have HMU0 := hid hmu0
    clear hS0 hmu0 hmuE hI0
    obtain ⟨V0, hV0⟩ : ∃ V, V = wr := ⟨_, rfl⟩
    subst hV0
    go_wp2_with fail
    go_loopw [8, 10] (fun sv lv wr => ∃ (s : BSt) (f : Nat) (gs : List Int) (A1 : Option Addr) (c1 : Nat) (A2 : Option Addr) (c2 n1 n2 : Nat), sv = .slice A1 n1 c1 ∧ lv = .slice A2 n2 c2 ∧ s.sets = S0 ∧ muB xs.length kn.length s ≤ mu0 ∧ BldI w xs ord kn R wr s f gs A1 c1 A2 c2 n1 n2) (fun _ lv _ => kn.length - lenV lv)
    case atStart => exact ⟨s0, f0, gs0, A10, c10, A20, c20, n10, n20, rfl, rfl, HS0.out, by rw [HMU0.out]; exact Nat.le_refl _, HI0.out⟩
    case round =>
      obtain ⟨s, f, gs, A1, c1, A2, c2', n1, n2, rfl, rfl, hset, hmu, hI⟩ := hrel
      have HI := hid hI
      have HSet := hid hset
      have HMu := hid hmu
      have hn1 : n1 ≤ N := by have := hI.st.len; have := cU_le s.U xs.length; have := hI.e1; have := HN.out; omega
      have hn2 : n2 ≤ kn.length := by have := hI.ll; have := hI.e2; omega
      have hz := hI.below.size
      have hcU : n1 = cU s.U xs.length := hI.e1.trans hI.st.len
      have HCU := hid hcU
      have he2 := hI.e2
      have HE2 := hid he2
      have hrow1 : SlA en1 1 wr A1 gs := en1_row (by rw [← hI.e1]; exact hI.o1 : wr.ownsRow w.heap.size 2 1 (.slice A1 gs.length c1) gs.length (gs.flatMap en1))
      by_cases hc : ∃ q, kn[n2]? = some q ∧ q.af = (n1 : Int)
      · obtain ⟨q, hq, haf⟩ := hc
        have hlt := (List.getElem?_eq_some_iff.1 hq).1
        obtain ⟨kb, ko, rfl, hkb, hkc⟩ := (HKRow.out wr hI.below).cells (by omega)
        have f0' : wr.cell? ⟨kb, ko + n2 * 3, none⟩ = some (.int .i64 (n1 : Int)) := by rw [← haf]; exact hkc n2 _ hq 0 _ rfl
        have f1' : wr.cell? ⟨kb, ko + n2 * 3 + 1, none⟩ = some (.int .i64 q.pi) := hkc n2 _ hq 1 _ rfl
        have f2' : wr.cell? ⟨kb, ko + n2 * 3 + 2, none⟩ = some (.int .i8 q.sd) := hkc n2 _ hq 2 _ rfl
        have hkq := HKn.out q (List.mem_of_getElem? hq)
        have hrg : 0 ≤ q.pi ∧ q.pi < xs.length ∧ 0 ≤ q.sd ∧ q.sd ≤ 3 := by
          unfold knOk at hkq
          simp only [Bool.and_eq_true] at hkq
          have h1 := inB_iff.1 hkq.2.1
          have h2 := inB_iff.1 hkq.2.2
          omega
        have HFl := hid (fallen_S b wi hi a c xs A1 c1 gs kb (ko + n2 * 3) q wr HB.out (by have := HN.out; omega) (HHave.out wr hI.below).1 (HHave.out wr hI.below).2 hrow1 s.U (fun i hi => hI.st.any hi) f1' f2' hrg n1 hI.e1)
        have HStep := hid (step_knk (xs := xs) (ord := ord) (kn := kn) (s := s) (q := q) (by rw [← HE2.out]; exact hq) (by rw [← HCU.out]; exact haf))
        have hd : decide ((n2 : Int) < (kn.length : Int)) = true := by rw [decide_eq_true_iff]; omega
        have hni : (n2 : Int) < (kn.length : Int) := by omega
        have hee : ((n1 : Int) == (n1 : Int)) = true := by simp
        obtain ⟨G, hG⟩ : ∃ G, zOf (knockL xs s.U q) = G := ⟨_, rfl⟩
        rw [hG] at HFl
        have HG := hid hG
        obtain ⟨ng, hng⟩ : ∃ ng, G.length = ng := ⟨_, rfl⟩
        have hngl : ng = (knockL xs s.U q).length := by rw [← hng, ← hG, zOf_len]
        have HNG := hid hngl
        have HNG2 := hid hng
        have HFl2 := hid (HFl.out.mono (fun e w' h => (show ∃ A c, e = .returned (.slice A ng c) ∧ Below wr.heap.size wr w' ∧ w'.ownsRow wr.heap.size 2 1 (.slice A G.length c) G.length (G.flatMap en1) by obtain ⟨A, c, h1, h2, h3⟩ := h; exact ⟨A, c, by rw [h1, hng], h2, h3⟩)))
        have hngs : ng ≤ 60 := by
          have h1 := knock_cnt xs s.U q
          have h2 := cU_le s.U xs.length
          have := HN.out
          omega
        have HQ := hid hq
        clear hI hq haf hkc f1' f2' hkq hrg hrow1 HFl hG hng hngl hset hmu hcU he2
        obtain ⟨V1, hV1⟩ : ∃ V, V = wr := ⟨_, rfl⟩
        subst hV1
        go_wp2_with fail
        refine HFl2.out.mono ?_
        rintro e v1 ⟨Ag, cg, rfl, hb1, og⟩
        have HB1 := hid hb1
        have HO1 := hid (own_step HI.out.o1 hb1)
        have HO2 := hid (own_step HI.out.o2 hb1)
        have HG1 := hid og
        have hz1 := hb1.size
        clear hb1 og
        go_wp2_with (at_builtin; refine app_one (w := v1) 26 2 (.int .i64 0) 1 8 Tryz.underlying26 (by kernel_rfl) rfl (by decide) w.heap.size _ n2 _ HO2.out ?d1 (by decide) (by omega) [.int .i64 (ng : Int)] _ _ rfl rfl rfl _ rfl ?d3 rfl (by intro u hu; simp at hu; rcases hu with rfl; rfl) ?_)
        case d1 => omega
        case d3 => rfl
        intro A5 c5 w5 own5 hb5 hg5 hat5
        have HO5 := hid own5
        have HB5 := hid ((below_of HI.out.below HI.out.below.size HB1.out).trans hb5)
        have HS5 := hid (own_dj HO1.out hg5 HI.out.dj)
        have HG5 := hid (own_dj HG1.out hg5 (Dj.symm (fun k hk e => by have h1 := (HI.out.o2.lt k hk).2; have h2 := (HG1.out.lt k e).1; omega)))
        have hz5 := hg5.size
        clear own5 hb5 hg5 hat5
        go_wp2_with fail
        go_loopw [12, 13] (fun bv iv wr => ∃ (k : Nat) (Ab : Option Addr) (cb nb : Nat), k ≤ n1 ∧ iv = .int .i64 k ∧ bv = .slice Ab nb cb ∧ nb = ((gs.take k).filter (fun g => !G.any (isN g))).length ∧ wr.ownsRow w5.heap.size 2 1 (.slice Ab nb cb) nb (((gs.take k).filter (fun g => !G.any (isN g))).flatMap en1) ∧ Below w5.heap.size w5 wr) (fun _ iv _ => n1 - (intOf iv).toNat)
        case atStart => exact ⟨0, some ⟨w5.heap.size, 0, none⟩, 0, 0, Nat.zero_le _, rfl, rfl, rfl, World.ownsRow_lit w5 #[] 0 (Nat.le_refl _) (by simp [maxLen]) (by simp), (Below.refl _ _).alloc (Nat.le_refl _) _⟩
        case round =>
          obtain ⟨k, Ab, cb, nb, hk, rfl, rfl, hnb, ownb, hblb⟩ := hrel
          have HNB := hid hnb
          have HOB := hid ownb
          have HBB := hid hblb
          have hzb := hblb.size
          have hnbk : nb ≤ 60 := by rw [hnb]; exact Nat.le_trans (List.length_filter_le _ _) (by rw [List.length_take]; omega)
          by_cases hlt2 : k < n1
          · have hd2 : decide ((k : Int) < (n1 : Int)) = true := by rw [decide_eq_true_iff]; omega
            have hk2 : (k : Int) < (n1 : Int) := by omega
            have hrow5 : SlA en1 1 w5 A1 gs := en1_row (by rw [← HI.out.e1]; exact HS5.out : w5.ownsRow w.heap.size 2 1 (.slice A1 gs.length c1) gs.length (gs.flatMap en1))
            obtain ⟨sb, so, hA1, hsb, hsc⟩ := en1_cells (hrow5.below hblb) (by have := HI.out.e1; omega)
            have eg1 : gs[k]? = some (gs[k]'(by have := HI.out.e1; omega)) := List.getElem?_eq_getElem _
            obtain ⟨g, hg⟩ : ∃ g, gs[k]'(by have := HI.out.e1; omega) = g := ⟨_, rfl⟩
            rw [hg] at eg1
            have fg := hsc k _ eg1
            have HEG := hid eg1
            have hrowG : SlA en1 1 w5 Ag G := en1_row HG5.out
            have HHas := hid (has_len_S Ag cg G g wr (hrowG.below hblb) ng HNG2.out.symm)
            have hstep : (gs.take (k + 1)).filter (fun g => !G.any (isN g)) = (gs.take k).filter (fun g => !G.any (isN g)) ++ (if G.any (isN g) = true then [] else [g]) := by
              rw [List.take_add_one, eg1, Option.toList, List.filter_append]
              congr 1
              cases hh : G.any (isN g) with
              | true => simp [hh]
              | false => simp [hh]
            obtain ⟨L, hL⟩ : ∃ L, (gs.take k).filter (fun g => !G.any (isN g)) = L := ⟨_, rfl⟩
            rw [hL] at hstep
            have HL := hid hL
            obtain ⟨pb, hpb⟩ : ∃ pb, G.any (isN g) = pb := ⟨_, rfl⟩
            rw [hpb] at HHas hstep
            have HST := hid hstep
            subst hA1
            clear hnb ownb hrow5 hrowG hg eg1 hL hpb hstep hsc
            cases pb with
            | true =>
              go_wp2_with fail
              refine HHas.out.mono ?_
              rintro e w6 ⟨rfl, hb6⟩
              have HB6 := hid (below_of HBB.out hzb hb6)
              have HO6 := hid (own_step HOB.out hb6)
              clear hb6 hblb
              go_wp2_with fail
              have hs := HST.out
              simp only [if_true, List.append_nil] at hs
              have hl := HL.out
              exact ⟨⟨k + 1, Ab, cb, nb, by omega, by go_num, rfl, by rw [hs, ← hl]; exact HNB.out, by rw [hs, ← hl]; exact HO6.out, HB6.out⟩, by simp [intOf]; omega⟩
            | false =>
              go_wp2_with fail
              refine HHas.out.mono ?_
              rintro e w6 ⟨rfl, hb6⟩
              have HB6 := hid (below_of HBB.out hzb hb6)
              have HO6 := hid (own_step HOB.out hb6)
              have fg6 := cell_on hb6 fg
              have hz6 := HB6.out.size
              clear hb6 hblb fg
              go_wp2_with (at_builtin; refine app_one (w := w6) 26 2 (.int .i64 0) 1 8 Tryz.underlying26 (by kernel_rfl) rfl (by decide) w5.heap.size _ nb _ HO6.out ?d1 (by decide) hz6 [.int .i64 g] _ _ rfl rfl rfl _ rfl ?d3 rfl (by intro u hu; simp at hu; rcases hu with rfl; rfl) ?_)
              case d1 => omega
              case d3 => rfl
              intro A7 c7 w7 own7 hb7 hg7 hat7
              have HO7 := hid own7
              have HB7 := hid (HB6.out.trans hb7)
              clear own7 hb7 hg7 hat7
              go_wp2_with fail
              have hs := HST.out
              simp only [Bool.false_eq_true, if_false] at hs
              have hl := HL.out
              refine ⟨⟨k + 1, A7, c7, nb + 1, by omega, by go_num, rfl, ?_, ?_, HB7.out⟩, by simp [intOf]; omega⟩
              · rw [hs, List.length_append, ← hl, ← HNB.out]; rfl
              · have := HO7.out
                rw [hs, flat_one, ← hl]
                exact this
          · obtain rfl : k = n1 := by omega
            have hd2 : decide ((k : Int) < (k : Int)) = false := by rw [decide_eq_false_iff_not]; omega
            have htk : gs.take k = gs := List.take_of_length_le (by have := HI.out.e1; omega)
            rw [htk] at hnb ownb
            have hGz := HG.out
            have hst := (HI.out.st).off (knockL xs s.U q)
            rw [hGz] at hst
            have HNEW := hid (show BldI w xs ord kn R wr (knkB xs s q) (f - 1) (gs.filter (fun g => !G.any (isN g))) Ab cb A5 c5 nb (n2 + 1) by
              have hm := mu_knk (xs := xs) (K := kn.length) (s := s) (q := q) (by have := HE2.out; omega)
              have hm0 := HI.out.mu
              have hs0 := HI.out.sets
              have hf : f = f - 1 + 1 := by omega
              refine ⟨by omega, ?_, hst, ?_, ?_, hnb, ?_, own_low ownb (by have := HB5.out.size; omega), ?_, ?_, below_of HB5.out HB5.out.size hblb⟩
              · have := HI.out.run
                rw [hf, bld_go HStep.out] at this
                exact this
              · show s.sets + _ ≤ _
                omega
              · show (s.lost ++ _).length ≤ _
                rw [List.length_append, List.length_singleton]
                have := HE2.out
                omega
              · show _ = (s.lost ++ _).length
                rw [List.length_append, List.length_singleton, HE2.out]
              · show wr.ownsRow _ _ _ _ _ ((s.lost ++ [((knockL xs s.U q).length : Int)]).flatMap en1)
                rw [flat_one, ← HNG.out]
                exact own_step HO5.out hblb
              · exact Dj.symm (fun k hk e => by have h1 := (HO5.out.lt k hk).2; have h2 := (ownb.lt k e).1; omega))
            have hmk := mu_knk (xs := xs) (K := kn.length) (s := s) (q := q) (by have := HE2.out; omega)
            have HMK := hid (show muB xs.length kn.length (knkB xs s q) ≤ mu0 by have := HMu.out; omega)
            clear hnb ownb hblb hst hmk htk hGz
            go_wp2_with fail
            exact ⟨⟨knkB xs s q, f - 1, _, Ab, cb, A5, c5, nb, n2 + 1, rfl, rfl, HSet.out, HMK.out, HNEW.out⟩, by simp [lenV]; omega⟩
      · have hstp : stepB xs ord kn s = setB ord s := step_set (fun q hq ha => hc ⟨q, by rw [he2]; exact hq, by rw [hcU]; exact ha⟩)
        have hcc : n2 = kn.length ∨ ∃ q, n2 < kn.length ∧ kn[n2]? = some q ∧ q.af ≠ (n1 : Int) := by
          by_cases h : n2 = kn.length
          · exact .inl h
          · exact .inr ⟨kn[n2]'(by omega), by omega, List.getElem?_eq_getElem _, fun e => hc ⟨_, List.getElem?_eq_getElem (by omega), e⟩⟩
        have HStp := hid hstp
        have HRow1 := hid hrow1
        have hs37 : S0 ≤ 3720 := by have := hI.sets; have := HM0.out; omega
        have hwS : IntKind.i64.wrap ((S0 : Int) + 1) = (S0 : Int) + 1 := IntWalk.i64_in _ (by omega)
        have HKr := hid ((HKRow.out wr hI.below).cells)
        clear hI hstp hrow1 hc hset hmu hcU he2
        obtain ⟨V1, hV1⟩ : ∃ V, V = wr := ⟨_, rfl⟩
        subst hV1
        by_cases hfull : n1 = N
        · have ef : ((n1 : Int) == (N : Int)) = true := by simp [hfull]
          have hfin : R = s := by
            have h1 := (set_none (n := N) (ord := ord) (s := s) (by rw [← HN.out]; exact HO.out)).2 (by have h := HCU.out; rw [HN.out] at h; omega)
            rw [← HI.out.run]
            exact bld_end (HStp.out.trans h1) _
          have HFin := hid hfin
          clear hfin hfull
          rcases hcc with hcl | ⟨q, hlt, hq, hne⟩
          · have hd : decide ((n2 : Int) < (kn.length : Int)) = false := by rw [decide_eq_false_iff_not]; omega
            have hd2 : decide (n2 < kn.length) = false := by rw [decide_eq_false_iff_not]; omega
            have hni : ¬ (n2 : Int) < (kn.length : Int) := by omega
            have hnn : ¬ n2 < kn.length := by omega
            clear hcl
            go_wp2_with fail
            refine bodyPost_ret (v := .tuple #[.int .i64 (S0 : Nat), .slice A2 n2 c2']) (by simp [results, Tryz.results51, go_sem]) rfl ?_
            rw [HFin.out]
            exact ⟨A2, c2', by rw [HSet.out, ← HE2.out], HI.out.below, by rw [← HE2.out]; exact HI.out.o2⟩
          · have hd : decide ((n2 : Int) < (kn.length : Int)) = true := by rw [decide_eq_true_iff]; omega
            have hni : (n2 : Int) < (kn.length : Int) := by omega
            have hee : (q.af == (n1 : Int)) = false := by simpa using hne
            obtain ⟨kb, ko, rfl, hkb, hkc⟩ := HKr.out (by omega)
            have f0' : V1.cell? ⟨kb, ko + n2 * 3, none⟩ = some (.int .i64 q.af) := hkc n2 _ hq 0 _ rfl
            clear hkc hq hne
            go_wp2_with fail
            refine bodyPost_ret (v := .tuple #[.int .i64 (S0 : Nat), .slice A2 n2 c2']) (by simp [results, Tryz.results51, go_sem]) rfl ?_
            rw [HFin.out]
            exact ⟨A2, c2', by rw [HSet.out, ← HE2.out], HI.out.below, by rw [← HE2.out]; exact HI.out.o2⟩
        · have ef : ((n1 : Int) == (N : Int)) = false := by simp; omega
          have HFull := hid hfull
          clear hfull
          rcases hcc with hcl | ⟨q, hlt, hq, hne⟩
          · have hd : decide ((n2 : Int) < (kn.length : Int)) = false := by rw [decide_eq_false_iff_not]; omega
            have hd2 : decide (n2 < kn.length) = false := by rw [decide_eq_false_iff_not]; omega
            have hni : ¬ (n2 : Int) < (kn.length : Int) := by omega
            have hnn : ¬ n2 < kn.length := by omega
            clear hcl
            go_wp2_with fail
            clear hd hd2 hni hnn
            go_loopw [8, 14] (fun sv iv wr => ∃ i : Nat, i ≤ N ∧ iv = .int .i64 i ∧ sv = .slice A1 n1 c1 ∧ (∀ j, j < i → ∀ g, ord[j]? = some g → (!s.U g.toNat) = false) ∧ Below V1.heap.size V1 wr) (fun _ iv _ => N - (intOf iv).toNat)
            case atStart => exact ⟨0, Nat.zero_le _, rfl, rfl, fun j hj => absurd hj (Nat.not_lt_zero _), Below.refl _ _⟩
            case round =>
              obtain ⟨i, hi1, rfl, rfl, hpre, hbl⟩ := hrel
              have HPre := hid hpre
              have HBL := hid hbl
              have hzl := hbl.size
              clear hpre
              by_cases hlt4 : i < N
              · have hd4 : decide ((i : Int) < (N : Int)) = true := by rw [decide_eq_true_iff]; omega
                have hi4 : (i : Int) < (N : Int) := by omega
                obtain ⟨ob, oo, hA2o, hob, hoc⟩ := en1_cells (HORow.out wr (below_of HI.out.below HI.out.below.size hbl)) (by have := HOL.out; omega)
                have eg1 : ord[i]? = some (ord[i]'(by have := HOL.out; omega)) := List.getElem?_eq_getElem _
                obtain ⟨g, hg⟩ : ∃ g, ord[i]'(by have := HOL.out; omega) = g := ⟨_, rfl⟩
                rw [hg] at eg1
                have hgr := HO.out.rng g (List.mem_of_getElem? eg1)
                obtain ⟨j, rfl⟩ : ∃ j : Nat, g = j := ⟨g.toNat, by omega⟩
                have hjn : j < xs.length := by omega
                have fg := hoc i _ eg1
                have HEG := hid eg1
                have HHas := hid (has_len_S A1 c1 gs (j : Int) wr (HRow1.out.below hbl) n1 HI.out.e1)
                rw [HI.out.st.any hjn] at HHas
                have HJ := hid hjn
                obtain ⟨pb, hpb⟩ : ∃ pb, s.U j = pb := ⟨_, rfl⟩
                rw [hpb] at HHas
                have HPB := hid hpb
                subst hA2o
                clear hg eg1 hgr hoc hpb hjn
                cases pb with
                | true =>
                  go_wp2_with fail
                  refine HHas.out.mono ?_
                  rintro e w6 ⟨rfl, hb6⟩
                  have HB6 := hid (below_of HBL.out hzl hb6)
                  clear hb6 hbl fg
                  go_wp2_with fail
                  refine ⟨⟨i + 1, by omega, by go_num, rfl, fun j' hj' g hg => ?_, HB6.out⟩, by simp [intOf]; omega⟩
                  by_cases e : j' = i
                  · subst e
                    have := HEG.out.symm.trans hg
                    cases this
                    rw [Int.toNat_natCast, HPB.out]; rfl
                  · exact HPre.out j' (by omega) g hg
                | false =>
                  go_wp2_with fail
                  refine HHas.out.mono ?_
                  rintro e w6 ⟨rfl, hb6⟩
                  have HB6 := hid (below_of HBL.out hzl hb6)
                  have fg6 := cell_on hb6 fg
                  have HO16 := hid (own_step HI.out.o1 HB6.out)
                  have HO26 := hid (own_step HI.out.o2 HB6.out)
                  have hz6 := HB6.out.size
                  clear hb6 hbl fg
                  go_wp2_with (at_builtin; refine app_one (w := w6) 26 2 (.int .i64 0) 1 8 Tryz.underlying26 (by kernel_rfl) rfl (by decide) w.heap.size _ n1 _ HO16.out ?d1 (by decide) (by omega) [.int .i64 (j : Int)] _ _ rfl rfl rfl _ rfl ?d3 rfl (by intro u hu; simp at hu; rcases hu with rfl; rfl) ?_)
                  case d1 => omega
                  case d3 => rfl
                  intro A7 c7 w7 own7 hb7 hg7 hat7
                  have hsb : setB ord s = some ⟨fun y => decide (y = j) || s.U y, s.sets + 1, s.lost⟩ := by
                    unfold setB
                    rw [find_first (p := fun g : Int => !s.U g.toNat) HEG.out (by show (!s.U (j : Int).toNat) = true; rw [Int.toNat_natCast, HPB.out]; rfl) HPre.out]
                    dsimp only
                    rw [Int.toNat_natCast]
                  have hms := mu_set (n := xs.length) (K := kn.length) (s := s) (i := j) HJ.out HPB.out
                  have hnew : BldI w xs ord kn R w7 ⟨fun y => decide (y = j) || s.U y, s.sets + 1, s.lost⟩ (f - 1) (gs ++ [(j : Int)]) A7 c7 A2 c2' (n1 + 1) n2 := by
                    have hm0 := HI.out.mu
                    have hs0 := HI.out.sets
                    have hf : f = f - 1 + 1 := by omega
                    refine ⟨by omega, ?_, HI.out.st.set HJ.out HPB.out, by show s.sets + 1 + _ ≤ _; omega, HI.out.ll, ?_, HI.out.e2, by rw [flat_one]; exact own7, own_dj HO26.out hg7 HI.out.dj.symm, ?_, (below_of HI.out.below HI.out.below.size HB6.out).trans hb7⟩
                    · have := HI.out.run
                      rw [hf, bld_go (HStp.out.trans hsb)] at this
                      exact this
                    · rw [List.length_append, List.length_singleton, ← HI.out.e1]
                    · rcases hat7 with h | h
                      · intro k hk; rw [h] at hk; exact HI.out.dj k hk
                      · exact Dj.symm (Dj.fresh HO26.out h)
                  have HNEW := hid hnew
                  have hmea : (kn.length - n2) * (N + 1) + (N - (n1 + 1)) < (kn.length - n20) * (N + 1) + (N - n10) := by
                    have h1 := HI.out.mu_eq
                    have h2 := HMu.out
                    rw [HN.out] at h1 h2
                    rw [← HMU.out]
                    have h3 := HFull.out
                    have h4 : N - (n1 + 1) < N - n1 := by omega
                    omega
                  have HMEA := hid hmea
                  have HTS := hid (by rw [HSet.out] : ((s.sets + 1 : Nat) : Int) = ((S0 + 1 : Nat) : Int))
                  clear own7 hb7 hg7 hat7 hsb hms hnew hmea
                  go_wp2_with fail
                  exact ⟨⟨_, f - 1, _, A7, c7, A2, c2', n1 + 1, n2, rfl, by show _ = Value.int .i64 ((s.sets + 1 : Nat) : Int); rw [HTS.out]; go_num, rfl, HNEW.out⟩, by simpa [lenV] using HMEA.out⟩
              · exfalso
                obtain rfl : i = N := by omega
                refine HFull.out ?_
                have h1 : cU s.U xs.length = xs.length := cU_all (fun k hk => by
                  obtain ⟨m', hm'⟩ := List.mem_iff_getElem?.1 (HO.out.all hk)
                  have hml := (List.getElem?_eq_some_iff.1 hm').1
                  have := HPre.out m' (by have := HOL.out; omega) _ hm'
                  rw [Int.toNat_natCast] at this
                  simpa using this)
                rw [HCU.out, h1, HN.out]
          · have hd : decide ((n2 : Int) < (kn.length : Int)) = true := by rw [decide_eq_true_iff]; omega
            have hni : (n2 : Int) < (kn.length : Int) := by omega
            have hee : (q.af == (n1 : Int)) = false := by simpa using hne
            obtain ⟨kb, ko, rfl, hkb, hkc⟩ := HKr.out (by omega)
            have f0' : V1.cell? ⟨kb, ko + n2 * 3, none⟩ = some (.int .i64 q.af) := hkc n2 _ hq 0 _ rfl
            clear hkc hq hne
            go_wp2_with fail
            clear hd hni hee f0'
            go_loopw [8, 14] (fun sv iv wr => ∃ i : Nat, i ≤ N ∧ iv = .int .i64 i ∧ sv = .slice A1 n1 c1 ∧ (∀ j, j < i → ∀ g, ord[j]? = some g → (!s.U g.toNat) = false) ∧ Below V1.heap.size V1 wr) (fun _ iv _ => N - (intOf iv).toNat)
            case atStart => exact ⟨0, Nat.zero_le _, rfl, rfl, fun j hj => absurd hj (Nat.not_lt_zero _), Below.refl _ _⟩
            case round =>
              obtain ⟨i, hi1, rfl, rfl, hpre, hbl⟩ := hrel
              have HPre := hid hpre
              have HBL := hid hbl
              have hzl := hbl.size
              clear hpre
              by_cases hlt4 : i < N
              · have hd4 : decide ((i : Int) < (N : Int)) = true := by rw [decide_eq_true_iff]; omega
                have hi4 : (i : Int) < (N : Int) := by omega
                obtain ⟨ob, oo, hA2o, hob, hoc⟩ := en1_cells (HORow.out wr (below_of HI.out.below HI.out.below.size hbl)) (by have := HOL.out; omega)
                have eg1 : ord[i]? = some (ord[i]'(by have := HOL.out; omega)) := List.getElem?_eq_getElem _
                obtain ⟨g, hg⟩ : ∃ g, ord[i]'(by have := HOL.out; omega) = g := ⟨_, rfl⟩
                rw [hg] at eg1
                have hgr := HO.out.rng g (List.mem_of_getElem? eg1)
                obtain ⟨j, rfl⟩ : ∃ j : Nat, g = j := ⟨g.toNat, by omega⟩
                have hjn : j < xs.length := by omega
                have fg := hoc i _ eg1
                have HEG := hid eg1
                have HHas := hid (has_len_S A1 c1 gs (j : Int) wr (HRow1.out.below hbl) n1 HI.out.e1)
                rw [HI.out.st.any hjn] at HHas
                have HJ := hid hjn
                obtain ⟨pb, hpb⟩ : ∃ pb, s.U j = pb := ⟨_, rfl⟩
                rw [hpb] at HHas
                have HPB := hid hpb
                subst hA2o
                clear hg eg1 hgr hoc hpb hjn
                cases pb with
                | true =>
                  go_wp2_with fail
                  refine HHas.out.mono ?_
                  rintro e w6 ⟨rfl, hb6⟩
                  have HB6 := hid (below_of HBL.out hzl hb6)
                  clear hb6 hbl fg
                  go_wp2_with fail
                  refine ⟨⟨i + 1, by omega, by go_num, rfl, fun j' hj' g hg => ?_, HB6.out⟩, by simp [intOf]; omega⟩
                  by_cases e : j' = i
                  · subst e
                    have := HEG.out.symm.trans hg
                    cases this
                    rw [Int.toNat_natCast, HPB.out]; rfl
                  · exact HPre.out j' (by omega) g hg
                | false =>
                  go_wp2_with fail
                  refine HHas.out.mono ?_
                  rintro e w6 ⟨rfl, hb6⟩
                  have HB6 := hid (below_of HBL.out hzl hb6)
                  have fg6 := cell_on hb6 fg
                  have HO16 := hid (own_step HI.out.o1 HB6.out)
                  have HO26 := hid (own_step HI.out.o2 HB6.out)
                  have hz6 := HB6.out.size
                  clear hb6 hbl fg
                  go_wp2_with (at_builtin; refine app_one (w := w6) 26 2 (.int .i64 0) 1 8 Tryz.underlying26 (by kernel_rfl) rfl (by decide) w.heap.size _ n1 _ HO16.out ?d1 (by decide) (by omega) [.int .i64 (j : Int)] _ _ rfl rfl rfl _ rfl ?d3 rfl (by intro u hu; simp at hu; rcases hu with rfl; rfl) ?_)
                  case d1 => omega
                  case d3 => rfl
                  intro A7 c7 w7 own7 hb7 hg7 hat7
                  have hsb : setB ord s = some ⟨fun y => decide (y = j) || s.U y, s.sets + 1, s.lost⟩ := by
                    unfold setB
                    rw [find_first (p := fun g : Int => !s.U g.toNat) HEG.out (by show (!s.U (j : Int).toNat) = true; rw [Int.toNat_natCast, HPB.out]; rfl) HPre.out]
                    dsimp only
                    rw [Int.toNat_natCast]
                  have hms := mu_set (n := xs.length) (K := kn.length) (s := s) (i := j) HJ.out HPB.out
                  have hnew : BldI w xs ord kn R w7 ⟨fun y => decide (y = j) || s.U y, s.sets + 1, s.lost⟩ (f - 1) (gs ++ [(j : Int)]) A7 c7 A2 c2' (n1 + 1) n2 := by
                    have hm0 := HI.out.mu
                    have hs0 := HI.out.sets
                    have hf : f = f - 1 + 1 := by omega
                    refine ⟨by omega, ?_, HI.out.st.set HJ.out HPB.out, by show s.sets + 1 + _ ≤ _; omega, HI.out.ll, ?_, HI.out.e2, by rw [flat_one]; exact own7, own_dj HO26.out hg7 HI.out.dj.symm, ?_, (below_of HI.out.below HI.out.below.size HB6.out).trans hb7⟩
                    · have := HI.out.run
                      rw [hf, bld_go (HStp.out.trans hsb)] at this
                      exact this
                    · rw [List.length_append, List.length_singleton, ← HI.out.e1]
                    · rcases hat7 with h | h
                      · intro k hk; rw [h] at hk; exact HI.out.dj k hk
                      · exact Dj.symm (Dj.fresh HO26.out h)
                  have HNEW := hid hnew
                  have hmea : (kn.length - n2) * (N + 1) + (N - (n1 + 1)) < (kn.length - n20) * (N + 1) + (N - n10) := by
                    have h1 := HI.out.mu_eq
                    have h2 := HMu.out
                    rw [HN.out] at h1 h2
                    rw [← HMU.out]
                    have h3 := HFull.out
                    have h4 : N - (n1 + 1) < N - n1 := by omega
                    omega
                  have HMEA := hid hmea
                  have HTS := hid (by rw [HSet.out] : ((s.sets + 1 : Nat) : Int) = ((S0 + 1 : Nat) : Int))
                  clear own7 hb7 hg7 hat7 hsb hms hnew hmea
                  go_wp2_with fail
                  exact ⟨⟨_, f - 1, _, A7, c7, A2, c2', n1 + 1, n2, rfl, by show _ = Value.int .i64 ((s.sets + 1 : Nat) : Int); rw [HTS.out]; go_num, rfl, HNEW.out⟩, by simpa [lenV] using HMEA.out⟩
              · exfalso
                obtain rfl : i = N := by omega
                refine HFull.out ?_
                have h1 : cU s.U xs.length = xs.length := cU_all (fun k hk => by
                  obtain ⟨m', hm'⟩ := List.mem_iff_getElem?.1 (HO.out.all hk)
                  have hml := (List.getElem?_eq_some_iff.1 hm').1
                  have := HPre.out m' (by have := HOL.out; omega) _ hm'
                  rw [Int.toNat_natCast] at this
                  simpa using this)
                rw [HCU.out, h1, HN.out]
def KnockedG (wi hi : Int) (xs : List Pc) (ord : List Int) (kn : List Kn) : Int := if orderG wi hi xs ord = 0 then (if plainK xs.length kn = true then 0 else 2) else orderG wi hi xs ord
def SetUpG (wi hi : Int) (xs : List Pc) (ord : List Int) (kn : List Kn) : Int × Int × Int := if KnockedG wi hi xs ord kn = 0 then (((siteR xs ord kn).sets : Int), ((siteR xs ord kn).lost.length : Int), 0) else (0, 0, KnockedG wi hi xs ord kn)
def LostByG (wi hi : Int) (xs : List Pc) (ord : List Int) (kn : List Kn) : List Int × Int := if KnockedG wi hi xs ord kn = 0 then ((siteR xs ord kn).lost, 0) else ([], KnockedG wi hi xs ord kn)
theorem step_lost {xs : List Pc} {ord : List Int} {kn : List Kn} {s t : BSt} (h : stepB xs ord kn s = some t) (hl : s.lost.length ≤ kn.length) : t.lost.length ≤ kn.length := by
  have hset : ∀ {t}, setB ord s = some t → t.lost.length ≤ kn.length := by
    intro t h
    unfold setB at h
    split at h
    · injection h with h
      rw [← h]
      exact hl
    · cases h
  unfold stepB at h
  split at h
  · rename_i q hq
    have := (List.getElem?_eq_some_iff.1 hq).1
    split at h
    · injection h with h
      rw [← h]
      show (s.lost ++ _).length ≤ _
      rw [List.length_append, List.length_singleton]
      omega
    · exact hset h
  · exact hset h
theorem bld_lost {xs : List Pc} {ord : List Int} {kn : List Kn} : ∀ (f : Nat) (s : BSt), s.lost.length ≤ kn.length → (bldR xs ord kn f s).lost.length ≤ kn.length
  | 0, _, h => h
  | f + 1, s, h => by
    unfold bldR
    split
    · rename_i t ht
      exact bld_lost f t (step_lost ht h)
    · exact h
theorem site_lost (xs : List Pc) (ord : List Int) (kn : List Kn) : (siteR xs ord kn).lost.length ≤ kn.length := bld_lost _ _ (Nat.zero_le _)
theorem LostBy_len (wi hi : Int) (xs : List Pc) (ord : List Int) (kn : List Kn) (_ : xs.length ≤ 1048576) (_ : ord.length ≤ 1048576) (h : kn.length ≤ 1048576) : (LostByG wi hi xs ord kn).1.length ≤ 1048576 := by
  unfold LostByG
  split
  · exact Nat.le_trans (site_lost xs ord kn) h
  · simp
theorem knocked_zero {wi hi : Int} {xs : List Pc} {ord : List Int} {kn : List Kn} (h : KnockedG wi hi xs ord kn = 0) : BrdOk xs ∧ xs.length ≤ 40 ∧ OrdOk xs.length ord ∧ (∀ q ∈ kn, knOk xs.length q = true) ∧ kn.length ≤ 60 := by
  unfold KnockedG at h
  split at h
  · rename_i h0
    obtain ⟨h1, h2, h3, h4, h5⟩ := order_zero h0
    split at h
    · rename_i hp
      unfold plainK at hp
      rw [Bool.and_eq_true, List.all_eq_true, decide_eq_true_iff] at hp
      exact ⟨h1, h2, ⟨h3, h4, h5⟩, hp.1, hp.2⟩
    · cases h
  · rename_i h0
    exact absurd h h0
theorem knocked_S (b : Nat) (wi hi : Int) (a : Option Addr) (c : Nat) (xs : List Pc) (a2 : Option Addr) (c2 : Nat) (gs : List Int) (a3 : Option Addr) (c3 : Nat) (kn : List Kn) (w : World) (rw_ : -128 ≤ wi ∧ wi ≤ 127 ∧ -128 ≤ hi ∧ hi ≤ 127) (hs : xs.length ≤ 1048576) (hb : BdA w b wi hi a xs.length c) (h : SlA Pc.enc 5 w a xs) (ok : ∀ p ∈ xs, p.Ok) (h2 : SlA en1 1 w a2 gs) (hgl : gs.length ≤ 1048576) (hgc : gs.length ≤ c2) (hcc : c2 ≤ 9223372036854775807) (h3 : SlA Kn.enc 3 w a3 kn) (ok3 : ∀ p ∈ kn, p.Ok) :
    Calls Tryz.prog 50 #[.pointer (some ⟨b, 0, none⟩), .slice a2 gs.length c2, .slice a3 kn.length c3] w fun e w' => e = .returned (.int .i64 (KnockedG wi hi xs gs kn)) ∧ Below w.heap.size w w' := by
  have HOr := hid (order_S b wi hi a c xs a2 c2 gs w rw_ hs hb h ok h2 hgl hgc hcc)
  have HPl := hid (fun W (hW : Below w.heap.size w W) => plainK_S a3 c3 kn (xs.length : Int) W (h3.below hW) ok3 (by omega))
  have HC2 := hid (fun W (hW : Below w.heap.size w W) => (hb.below hW hb.lt).c2)
  have hG : KnockedG wi hi xs gs kn = if orderG wi hi xs gs = 0 then (if plainK xs.length kn = true then 0 else 2) else orderG wi hi xs gs := rfl
  obtain ⟨v, hv⟩ : ∃ v, orderG wi hi xs gs = v := ⟨_, rfl⟩
  rw [hv] at hG HOr
  clear hb h h2 h3 hv
  by_cases hv0 : v = 0
  · subst hv0
    rw [if_pos rfl] at hG
    obtain ⟨pb, hpb⟩ : ∃ pb, plainK (xs.length : Int) kn = pb := ⟨_, rfl⟩
    rw [hpb] at hG HPl
    have HG := hid hG
    clear hG hpb
    cases pb
    all_goals (
      go_enter Tryz.func50, Tryz.ntmps50
      go_wp2_with fail
      refine HOr.out.mono ?_
      rintro e w1 ⟨rfl, hb1⟩
      have HB1 := hid hb1
      have c2' := HC2.out w1 hb1
      clear hb1
      go_wp2_with fail
      refine (HPl.out _ HB1.out).mono ?_
      rintro e w2 ⟨rfl, rfl⟩
      go_wp2_with fail
      go_ret
      exact ⟨ret_int (by rw [HG.out]; rfl), HB1.out⟩)
  · rw [if_neg hv0] at hG
    have HG := hid hG
    have hne : (v != 0) = true := by simpa using hv0
    clear hG hv0
    go_enter Tryz.func50, Tryz.ntmps50
    go_wp2_with fail
    refine HOr.out.mono ?_
    rintro e w1 ⟨rfl, hb1⟩
    have HB1 := hid hb1
    clear hb1
    go_wp2_with fail
    go_ret
    exact ⟨ret_int (by rw [HG.out]), HB1.out⟩
set_option maxHeartbeats 1000000 in
theorem SetUp_S (w : World) (wi hi : Int) (wl : -128 ≤ wi) (wu : wi ≤ 127) (hl : -128 ≤ hi) (hu : hi ≤ 127) (a : Option Addr) (c : Nat) (xs : List Pc) (h : SlA Pc.enc 5 w a xs) (hac : a = none → c = 0) (ok : ∀ p ∈ xs, p.Ok) (hs : xs.length ≤ 1048576) (a2 : Option Addr) (c2 : Nat) (gs : List Int) (h2 : SlA en1 1 w a2 gs) (hac2 : a2 = none → c2 = 0) (hcap : gs.length ≤ c2) (hc63 : c2 ≤ 9223372036854775807) (ok2 : ∀ p ∈ gs, -9223372036854775808 ≤ p ∧ p ≤ 9223372036854775807) (hs2 : gs.length ≤ 1048576)
    (a3 : Option Addr) (c3 : Nat) (kn : List Kn) (h3 : SlA Kn.enc 3 w a3 kn) (hac3 : a3 = none → c3 = 0) (hcap3 : kn.length ≤ c3) (hc633 : c3 ≤ 9223372036854775807) (ok3 : ∀ p ∈ kn, p.Ok) (hs3 : kn.length ≤ 1048576) :
    Calls Tryz.prog 23 #[.agg #[.int .i8 wi, .int .i8 hi, .slice a xs.length c], .slice a2 gs.length c2, .slice a3 kn.length c3] w (fun e w' => e = .returned (.tuple #[.int .i64 (SetUpG wi hi xs gs kn).1, .int .i64 (SetUpG wi hi xs gs kn).2.1, .int .i64 (SetUpG wi hi xs gs kn).2.2]) ∧ Below w.heap.size w w') := by
  obtain ⟨W0, hW0⟩ : ∃ W, W = w.alloc (.cells #[.int .i8 wi, .int .i8 hi, .slice a xs.length c] 32) := ⟨_, rfl⟩
  have B0 : Below w.heap.size w W0 := by rw [hW0]; exact (Below.refl _ _).alloc (Nat.le_refl _) _
  have hbd : BdA W0 w.heap.size wi hi a xs.length c := by rw [hW0]; exact bd_box _ _ _ _ _ _ _
  have HKn := hid (knocked_S w.heap.size wi hi a c xs a2 c2 gs a3 c3 kn W0 ⟨wl, wu, hl, hu⟩ hs hbd (h.below B0) ok (h2.below B0) hs2 hcap hc63 (h3.below B0) ok3)
  have HBu := hid (fun (hz : KnockedG wi hi xs gs kn = 0) W (hW : Below W0.heap.size W0 W) => build_S w.heap.size wi hi a c xs a2 c2 gs a3 c3 kn W (knocked_zero hz).1 (by have := (knocked_zero hz).2.1; omega) (hbd.below hW hbd.lt) ((h.below B0).below hW) ((h2.below B0).below hW) ((h3.below B0).below hW) (knocked_zero hz).2.2.1 (knocked_zero hz).2.2.2.1 (knocked_zero hz).2.2.2.2)
  have HB0 := hid B0
  have hG : SetUpG wi hi xs gs kn = if KnockedG wi hi xs gs kn = 0 then (((siteR xs gs kn).sets : Int), ((siteR xs gs kn).lost.length : Int), 0) else (0, 0, KnockedG wi hi xs gs kn) := rfl
  obtain ⟨v, hv⟩ : ∃ v, KnockedG wi hi xs gs kn = v := ⟨_, rfl⟩
  rw [hv] at hG HKn HBu
  clear hbd h h2 h3 hv B0
  by_cases hv0 : v = 0
  · subst hv0
    rw [if_pos rfl] at hG
    have HG := hid hG
    have HBu2 := hid (HBu.out rfl)
    obtain ⟨R, hR⟩ : ∃ R, siteR xs gs kn = R := ⟨_, rfl⟩
    rw [hR] at HG HBu2
    obtain ⟨L, hL⟩ : ∃ L, R.lost.length = L := ⟨_, rfl⟩
    have HL := hid hL
    have HBu3 := hid (fun W (hW : Below W0.heap.size W0 W) => (HBu2.out W hW).mono (fun e w' h => (show ∃ A c, e = .returned (.tuple #[.int .i64 (R.sets : Nat), .slice A L c]) ∧ Below W.heap.size W w' by obtain ⟨A, c, h1, h2, h3⟩ := h; exact ⟨A, c, by rw [h1, hL], h2⟩)))
    clear hG HBu HBu2 hR hL
    go_enter Tryz.func23, Tryz.ntmps23
    go_wp2_with fail
    rw [← hW0]
    clear hW0
    refine HKn.out.mono ?_
    rintro e w1 ⟨rfl, hb1⟩
    have HB1 := hid hb1
    clear hb1
    go_wp2_with fail
    refine (HBu3.out _ HB1.out).mono ?_
    rintro e w2 ⟨A, cA, rfl, hb2⟩
    have HB2 := hid (below_of HB0.out HB0.out.size (below_of HB1.out HB1.out.size hb2))
    clear hb2
    go_wp2_with fail
    refine bodyPost_ret (v := .tuple #[.int .i64 (R.sets : Nat), .int .i64 (L : Nat), .int .i64 0]) (by simp [results, Tryz.results23, go_sem]) rfl ?_
    rw [HG.out, HL.out]
    exact ⟨rfl, HB2.out⟩
  · rw [if_neg hv0] at hG
    have HG := hid hG
    have hne : (v != 0) = true := by simpa using hv0
    clear hG hv0 HBu
    go_enter Tryz.func23, Tryz.ntmps23
    go_wp2_with fail
    rw [← hW0]
    clear hW0
    refine HKn.out.mono ?_
    rintro e w1 ⟨rfl, hb1⟩
    have HB1 := hid (below_of HB0.out HB0.out.size hb1)
    clear hb1
    go_wp2_with fail
    refine bodyPost_ret (v := .tuple #[.int .i64 0, .int .i64 0, .int .i64 v]) (by simp [results, Tryz.results23, go_sem]) rfl ?_
    rw [HG.out]
    exact ⟨rfl, HB1.out⟩
set_option maxHeartbeats 1000000 in
theorem LostBy_S (w : World) (wi hi : Int) (wl : -128 ≤ wi) (wu : wi ≤ 127) (hl : -128 ≤ hi) (hu : hi ≤ 127) (a : Option Addr) (c : Nat) (xs : List Pc) (h : SlA Pc.enc 5 w a xs) (hac : a = none → c = 0) (ok : ∀ p ∈ xs, p.Ok) (hs : xs.length ≤ 1048576) (a2 : Option Addr) (c2 : Nat) (gs : List Int) (h2 : SlA en1 1 w a2 gs) (hac2 : a2 = none → c2 = 0) (hcap : gs.length ≤ c2) (hc63 : c2 ≤ 9223372036854775807) (ok2 : ∀ p ∈ gs, -9223372036854775808 ≤ p ∧ p ≤ 9223372036854775807) (hs2 : gs.length ≤ 1048576)
    (a3 : Option Addr) (c3 : Nat) (kn : List Kn) (h3 : SlA Kn.enc 3 w a3 kn) (hac3 : a3 = none → c3 = 0) (hcap3 : kn.length ≤ c3) (hc633 : c3 ≤ 9223372036854775807) (ok3 : ∀ p ∈ kn, p.Ok) (hs3 : kn.length ≤ 1048576) :
    Calls Tryz.prog 27 #[.agg #[.int .i8 wi, .int .i8 hi, .slice a xs.length c], .slice a2 gs.length c2, .slice a3 kn.length c3] w (ResS en1 1 2 w (LostByG wi hi xs gs kn).1 (LostByG wi hi xs gs kn).2) := by
  obtain ⟨W0, hW0⟩ : ∃ W, W = w.alloc (.cells #[.int .i8 wi, .int .i8 hi, .slice a xs.length c] 32) := ⟨_, rfl⟩
  have B0 : Below w.heap.size w W0 := by rw [hW0]; exact (Below.refl _ _).alloc (Nat.le_refl _) _
  have hbd : BdA W0 w.heap.size wi hi a xs.length c := by rw [hW0]; exact bd_box _ _ _ _ _ _ _
  have HKn := hid (knocked_S w.heap.size wi hi a c xs a2 c2 gs a3 c3 kn W0 ⟨wl, wu, hl, hu⟩ hs hbd (h.below B0) ok (h2.below B0) hs2 hcap hc63 (h3.below B0) ok3)
  have HBu := hid (fun (hz : KnockedG wi hi xs gs kn = 0) W (hW : Below W0.heap.size W0 W) => build_S w.heap.size wi hi a c xs a2 c2 gs a3 c3 kn W (knocked_zero hz).1 (by have := (knocked_zero hz).2.1; omega) (hbd.below hW hbd.lt) ((h.below B0).below hW) ((h2.below B0).below hW) ((h3.below B0).below hW) (knocked_zero hz).2.2.1 (knocked_zero hz).2.2.2.1 (knocked_zero hz).2.2.2.2)
  have HB0 := hid B0
  have hG : LostByG wi hi xs gs kn = if KnockedG wi hi xs gs kn = 0 then ((siteR xs gs kn).lost, 0) else ([], KnockedG wi hi xs gs kn) := rfl
  obtain ⟨v, hv⟩ : ∃ v, KnockedG wi hi xs gs kn = v := ⟨_, rfl⟩
  rw [hv] at hG HKn HBu
  clear hbd h h2 h3 hv B0
  by_cases hv0 : v = 0
  · subst hv0
    rw [if_pos rfl] at hG
    have HG := hid hG
    have HBu2 := hid (HBu.out rfl)
    obtain ⟨R, hR⟩ : ∃ R, siteR xs gs kn = R := ⟨_, rfl⟩
    rw [hR] at HG HBu2
    clear hG HBu hR
    go_enter Tryz.func27, Tryz.ntmps27
    go_wp2_with fail
    rw [← hW0]
    clear hW0
    refine HKn.out.mono ?_
    rintro e w1 ⟨rfl, hb1⟩
    have HB1 := hid hb1
    clear hb1
    go_wp2_with fail
    refine (HBu2.out _ HB1.out).mono ?_
    rintro e w2 ⟨A, cA, rfl, hb2, own2⟩
    have HB2 := hid (below_of HB0.out HB0.out.size (below_of HB1.out HB1.out.size hb2))
    have HO2 := hid own2
    have hz := (below_of HB0.out HB0.out.size HB1.out).size
    clear hb2 own2
    go_wp2_with fail
    refine bodyPost_ret (v := .tuple #[.slice A R.lost.length cA, .int .i64 0]) (by simp [results, Tryz.results27, go_sem]) rfl ?_
    rw [HG.out]
    exact ⟨A, cA, rfl, HB2.out, own_low HO2.out hz⟩
  · rw [if_neg hv0] at hG
    have HG := hid hG
    have hne : (v != 0) = true := by simpa using hv0
    clear hG hv0 HBu
    go_enter Tryz.func27, Tryz.ntmps27
    go_wp2_with fail
    rw [← hW0]
    clear hW0
    refine HKn.out.mono ?_
    rintro e w1 ⟨rfl, hb1⟩
    have HB1 := hid (below_of HB0.out HB0.out.size hb1)
    clear hb1
    go_wp2_with fail
    refine bodyPost_ret (v := .tuple #[.slice (some ⟨w1.heap.size, 0, none⟩) 0 0, .int .i64 v]) (by simp [results, Tryz.results27, go_sem]) rfl ?_
    rw [HG.out]
    exact ⟨some ⟨w1.heap.size, 0, none⟩, 0, rfl, HB1.out.alloc HB1.out.size _, World.ownsRow_lit w1 #[] 0 HB1.out.size (by simp [maxLen]) (by simp)⟩
set_option maxRecDepth 100000 in
set_option maxHeartbeats 400000 in
theorem idx_Kn (F : Nat) (he : ∀ args W, (callFunc F args).run Tryz.prog W = .ok (.enter F args) W) (cs : Array Value) (P : Kn → Bool) (a : Option Addr) (c : Nat) (xs : List Kn) (w : World) (h : SlA Kn.enc 3 w a xs) (HF : ∀ p ∈ xs, ∀ W, Below w.heap.size w W → Calls Tryz.prog F (#[.agg p.enc.toArray] ++ cs) W fun e w' => e = .returned (.bool (P p)) ∧ Below W.heap.size W w') :
    Calls Tryz.prog 98 #[.slice a xs.length c, .func (.func F) #[] cs] w fun e w' => e = .returned (.int .i64 (idxOf P xs)) ∧ Below w.heap.size w w' := by
  have sa := h.small
  have HF := hid HF
  go_enter Tryz.func98, Tryz.ntmps98
  go_wp2_with fail
  go_loopw [8] (fun i wr => ∃ k : Nat, k ≤ xs.length ∧ i = .int .i64 k ∧ (xs.take k).any P = false ∧ Below w.heap.size w wr) (fun i _ => xs.length - (intOf i).toNat)
  case atStart => exact ⟨0, Nat.zero_le _, rfl, rfl, Below.refl _ _⟩
  case round =>
    obtain ⟨k, hk, rfl, ht, hbl⟩ := hrel
    by_cases hlt : k < xs.length
    · obtain ⟨b1, o1, rfl, hb1, hc1⟩ := (h.below hbl).cells (by omega)
      have e1 : xs[k]? = some xs[k] := List.getElem?_eq_getElem hlt
      have Hs := hid (HF.out _ (List.getElem_mem hlt) wr hbl)
      have Hp := hid e1
      have HT := hid ht
      clear ht e1
      generalize xs[k] = p at *
      obtain ⟨r, hr⟩ : ∃ r, P p = r := ⟨_, rfl⟩
      rw [hr] at Hs
      have Hr := hid hr
      have f0 : wr.cell? ⟨b1, o1 + k * 3, none⟩ = some (.int .i64 p.af) := hc1 k _ Hp.out 0 _ rfl
      have f1 : wr.cell? ⟨b1, o1 + k * 3 + 1, none⟩ = some (.int .i64 p.pi) := hc1 k _ Hp.out 1 _ rfl
      have f2 : wr.cell? ⟨b1, o1 + k * 3 + 2, none⟩ = some (.int .i8 p.sd) := hc1 k _ Hp.out 2 _ rfl
      clear hr hc1
      cases r
      · go_wp2_with fail
        refine Hs.out.mono ?_
        rintro e w1 ⟨rfl, hb9⟩
        go_wp2_with fail
        exact ⟨⟨k + 1, by omega, by go_num, any_step HT.out Hp.out Hr.out, below_of hbl hbl.size hb9⟩, by simp [intOf]; omega⟩
      · go_wp2_with fail
        refine Hs.out.mono ?_
        rintro e w1 ⟨rfl, hb9⟩
        go_wp2_with fail
        go_ret
        exact ⟨ret_int (idxOf_at HT.out Hp.out Hr.out).symm, below_of hbl hbl.size hb9⟩
    · obtain rfl : k = xs.length := by omega
      have HT := hid ht
      clear ht
      go_wp2_with fail
      go_ret
      refine ⟨ret_int ?_, hbl⟩
      have := HT.out
      rw [List.take_length] at this
      exact (idxOf_none this).symm
theorem has_Kn (F : Nat) (he : ∀ args W, (callFunc F args).run Tryz.prog W = .ok (.enter F args) W) (cs : Array Value) (P : Kn → Bool) (a : Option Addr) (c : Nat) (xs : List Kn) (w : World) (h : SlA Kn.enc 3 w a xs) (HF : ∀ p ∈ xs, ∀ W, Below w.heap.size w W → Calls Tryz.prog F (#[.agg p.enc.toArray] ++ cs) W fun e w' => e = .returned (.bool (P p)) ∧ Below W.heap.size W w') :
    Calls Tryz.prog 73 #[.slice a xs.length c, .func (.func F) #[] cs] w fun e w' => e = .returned (.bool (xs.any P)) ∧ Below w.heap.size w w' := by
  have Hs := hid (idx_Kn F he cs P a c xs w h HF)
  have Hr := hid (idxOf_ge P xs)
  have hl := h.small
  have hm := idxOf_le P xs
  clear h HF
  generalize idxOf P xs = q at *
  go_enter Tryz.func73, Tryz.ntmps73
  go_wp2_with fail
  refine Hs.out.mono ?_
  rintro e w1 ⟨rfl, hb⟩
  go_wp2_with fail
  go_ret
  exact ⟨ret_bool Hr.out, hb⟩
set_option maxHeartbeats 1000000 in
theorem bad_I (q : Kn) (okq : q.Ok) (b : Nat) (wi hi : Int) (a : Option Addr) (n c : Nat) (w : World) (hb : BdA w b wi hi a n c) (hn : n ≤ 1048576) :
    Calls Tryz.prog 74 #[.agg q.enc.toArray, .pointer (some ⟨b, 0, none⟩)] w fun e w' => e = .returned (.bool (!knOk n q)) ∧ Below w.heap.size w w' := by
  have B0 : ∀ o, Below w.heap.size w (w.alloc o) := fun o => (Below.refl _ _).alloc (Nat.le_refl _) _
  have c2 : ∀ o, (w.alloc o).cell? ⟨b, 2, none⟩ = some (.slice a n c) := fun o => cell_on (B0 o) hb.c2
  have HIx := hid (fun o i => indexOk_I b wi hi a n c i (w.alloc o) (by omega) (hb.below (B0 o) hb.lt))
  have HB := hid B0
  have wsd : IntKind.i64.wrap q.sd = q.sd := IntWalk.i64_in _ (by have := okq.sd0; have := okq.sd1; omega)
  obtain ⟨af, pi, sd⟩ := q
  simp only [Kn.enc] at *
  have HK := hid (show knOk n ⟨af, pi, sd⟩ = (inB af 0 n && (inB pi 0 ((n : Int) - 1) && inB sd 0 3)) from rfl)
  obtain ⟨r, hr⟩ : ∃ r, knOk n ⟨af, pi, sd⟩ = r := ⟨_, rfl⟩
  have HR := hid hr
  rw [hr]
  clear hb B0 okq hr
  cases h1 : inB af 0 n with
  | false =>
    have e : r = false := by rw [← HR.out, HK.out, h1]; rfl
    subst e
    go_enter Tryz.func74, Tryz.ntmps74
    go_wp2_with (go_at_call 45; refine (in_I _ _ _ _).mono ?_; rintro e w' ⟨rfl, rfl⟩)
    go_ret
    exact ⟨rfl, HB.out _⟩
  | true =>
    cases h2 : inB pi 0 ((n : Int) - 1) with
    | false =>
      have e : r = false := by rw [← HR.out, HK.out, h1, h2]; rfl
      subst e
      go_enter Tryz.func74, Tryz.ntmps74
      go_wp2_with (first | (go_at_call 45; refine (in_I _ _ _ _).mono ?_; rintro e w' ⟨rfl, rfl⟩) | (go_at_call 75; refine (HIx.out _ _).mono ?_; rintro e w' ⟨rfl, rfl⟩))
      go_ret
      exact ⟨rfl, HB.out _⟩
    | true =>
      cases h3 : inB sd 0 3 with
      | false =>
        have e : r = false := by rw [← HR.out, HK.out, h1, h2, h3]; rfl
        subst e
        go_enter Tryz.func74, Tryz.ntmps74
        go_wp2_with (first | (go_at_call 45; refine (in_I _ _ _ _).mono ?_; rintro e w' ⟨rfl, rfl⟩) | (go_at_call 75; refine (HIx.out _ _).mono ?_; rintro e w' ⟨rfl, rfl⟩) | (go_at_call 76; refine (side_I _ _).mono ?_; rintro e w' ⟨rfl, rfl⟩))
        go_ret
        exact ⟨rfl, HB.out _⟩
      | true =>
        have e : r = true := by rw [← HR.out, HK.out, h1, h2, h3]; rfl
        subst e
        go_enter Tryz.func74, Tryz.ntmps74
        go_wp2_with (first | (go_at_call 45; refine (in_I _ _ _ _).mono ?_; rintro e w' ⟨rfl, rfl⟩) | (go_at_call 75; refine (HIx.out _ _).mono ?_; rintro e w' ⟨rfl, rfl⟩) | (go_at_call 76; refine (side_I _ _).mono ?_; rintro e w' ⟨rfl, rfl⟩))
        go_ret
        exact ⟨rfl, HB.out _⟩
/-- slices.Index over whole numbers. -/
theorem index_I (a : Option Addr) (c : Nat) (xs : List Int) (x : Int) (w : World) (h : SlA en1 1 w a xs) (m : Nat) (hm : m = xs.length) :
    Calls Tryz.prog 95 #[.slice a m c, .int .i64 x] w fun e w' => e = .returned (.int .i64 (idxOf (isN x) xs)) ∧ w = w' := by
  subst hm
  have sa := h.small
  have H := hid h
  clear h
  go_enter Tryz.func95, Tryz.ntmps95
  go_wp2_with fail
  go_loopw [8] (fun i wr => ∃ k : Nat, k ≤ xs.length ∧ i = .int .i64 k ∧ (xs.take k).any (isN x) = false ∧ wr = w) (fun i _ => xs.length - (intOf i).toNat)
  case atStart => exact ⟨0, Nat.zero_le _, rfl, rfl, rfl⟩
  case round =>
    obtain ⟨k, hk, rfl, ht, rfl⟩ := hrel
    have HT := hid ht
    clear ht
    by_cases hlt : k < xs.length
    · obtain ⟨b1, o1, rfl, hb1, hc1⟩ := en1_cells H.out (by omega)
      have e1 : xs[k]? = some xs[k] := List.getElem?_eq_getElem hlt
      have hki : (k : Int) < (xs.length : Int) := by omega
      have Hp := hid e1
      clear e1
      generalize xs[k] = g at *
      have f0 := hc1 k _ Hp.out
      have hgx : isN x g = decide (g = x) := rfl
      by_cases hg : g = x
      · have e1 : (x == g) = true := by simp [hg]
        have HG := hid (show isN x g = true by rw [hgx]; simp [hg])
        clear hc1 hgx hg
        go_wp2_with fail
        go_ret
        exact ⟨ret_int (idxOf_at HT.out Hp.out HG.out).symm, rfl⟩
      · have e1 : (x == g) = false := by simp; exact fun e => hg e.symm
        have HG := hid (show isN x g = false by rw [hgx]; simp [hg])
        clear hc1 hgx hg
        go_wp2_with fail
        exact ⟨⟨k + 1, by omega, by go_num, any_step HT.out Hp.out HG.out, trivial⟩, by simp [intOf]; omega⟩
    · obtain rfl : k = xs.length := by omega
      go_wp2_with fail
      go_ret
      refine ⟨ret_int ?_, rfl⟩
      have := HT.out
      rw [List.take_length] at this
      exact (idxOf_none this).symm
/-- The site: the row of what stands, and its box; X is the row's block. -/
structure SiA (Wb W : World) (bb N : Nat) (ov : Value) (U : Nat → Bool) (many sets : Nat) (lost : List Int) : Prop where
  below : Below Wb.heap.size Wb W
  lt : Wb.heap.size + 2 ≤ W.heap.size
  s0 : W.cell? ⟨Wb.heap.size + 1, 0, none⟩ = some (.pointer (some ⟨bb, 0, none⟩))
  s1 : W.cell? ⟨Wb.heap.size + 1, 1, none⟩ = some ov
  s2 : W.cell? ⟨Wb.heap.size + 1, 2, none⟩ = some (.slice (some ⟨Wb.heap.size, 0, none⟩) N N)
  s3 : W.cell? ⟨Wb.heap.size + 1, 3, none⟩ = some (.int .i64 (many : Nat))
  s4 : W.cell? ⟨Wb.heap.size + 1, 4, none⟩ = some (.int .i64 (sets : Nat))
  s5 : ∃ A c, W.cell? ⟨Wb.heap.size + 1, 5, none⟩ = some (.slice A lost.length c) ∧ W.ownsRow (Wb.heap.size + 2) 2 1 (.slice A lost.length c) lost.length (lost.flatMap en1)
  up : DnA W Wb.heap.size N U
  fz : ∀ i j, i < 2 → W.frozen? ⟨Wb.heap.size + i, j, none⟩ = false
theorem SiA.later {Wb W W1 : World} {bb N : Nat} {ov : Value} {U : Nat → Bool} {many sets : Nat} {lost : List Int} (h : SiA Wb W bb N ov U many sets lost) (hb : Below W.heap.size W W1) : SiA Wb W1 bb N ov U many sets lost := by
  obtain ⟨A, c, h1, h2⟩ := h.s5
  exact ⟨below_of h.below h.below.size hb, Nat.le_trans h.lt hb.size, cell_on hb h.s0, cell_on hb h.s1, cell_on hb h.s2, cell_on hb h.s3, cell_on hb h.s4, ⟨A, c, cell_on hb h1, own_step h2 hb⟩, h.up.below hb h.up.lt, fun i j hi => (hb.frozen (p := ⟨_, j, none⟩) (by have := h.lt; show Wb.heap.size + i < _; omega)).trans (h.fz i j hi)⟩
theorem own_set {w : World} {base n : Nat} {e : TypeId} {size : Nat} {v : Value} {xs : List Value} (h : w.ownsRow base e size v n xs) {b j : Nat} (hb : b < base) (u : Value) : (w.setCell ⟨b, j, none⟩ u).ownsRow base e size v n xs :=
  World.ownsRow.kept (row := some b) h (setCell_grown w b j u) (by
    cases hv : v.ownBlock with
    | none => exact .inl rfl
    | some k => exact .inr (fun e => by have := (h.lt k hv).1; injection e with e; omega))
theorem DnA.far {w : World} {g n b j : Nat} {f : Nat → Bool} (h : DnA w g n f) (hne : g ≠ b) (u : Value) : DnA (w.setCell ⟨b, j, none⟩ u) g n f :=
  h.kept (setCell_grown w b j u) (fun e => hne (by injection e))
theorem SiA.many_ {Wb W : World} {bb N : Nat} {ov : Value} {U : Nat → Bool} {many sets : Nat} {lost : List Int} (h : SiA Wb W bb N ov U many sets lost) (k : Nat) : SiA Wb (W.setCell ⟨Wb.heap.size + 1, 3, none⟩ (.int .i64 (k : Nat))) bb N ov U k sets lost := by
  obtain ⟨A, c, h1, h2⟩ := h.s5
  refine ⟨h.below.setCell (by simp) _, by rw [World.size_setCell]; exact h.lt, ?_, ?_, ?_, ?_, ?_, ⟨A, c, ?_, own_set h2 (by omega) _⟩, h.up.far (by omega) _, fun i j hi => by rw [World.frozen?_setCell]; exact h.fz i j hi⟩
  · rw [World.cell?_setCell_other _ _ _ _ (by simp)]; exact h.s0
  · rw [World.cell?_setCell_other _ _ _ _ (by simp)]; exact h.s1
  · rw [World.cell?_setCell_other _ _ _ _ (by simp)]; exact h.s2
  · exact World.cell?_setCell_same _ _ _ (by rw [h.s3])
  · rw [World.cell?_setCell_other _ _ _ _ (by simp)]; exact h.s4
  · rw [World.cell?_setCell_other _ _ _ _ (by simp)]; exact h1
theorem SiA.sets_ {Wb W : World} {bb N : Nat} {ov : Value} {U : Nat → Bool} {many sets : Nat} {lost : List Int} (h : SiA Wb W bb N ov U many sets lost) (k : Nat) : SiA Wb (W.setCell ⟨Wb.heap.size + 1, 4, none⟩ (.int .i64 (k : Nat))) bb N ov U many k lost := by
  obtain ⟨A, c, h1, h2⟩ := h.s5
  refine ⟨h.below.setCell (by simp) _, by rw [World.size_setCell]; exact h.lt, ?_, ?_, ?_, ?_, ?_, ⟨A, c, ?_, own_set h2 (by omega) _⟩, h.up.far (by omega) _, fun i j hi => by rw [World.frozen?_setCell]; exact h.fz i j hi⟩
  · rw [World.cell?_setCell_other _ _ _ _ (by simp)]; exact h.s0
  · rw [World.cell?_setCell_other _ _ _ _ (by simp)]; exact h.s1
  · rw [World.cell?_setCell_other _ _ _ _ (by simp)]; exact h.s2
  · rw [World.cell?_setCell_other _ _ _ _ (by simp)]; exact h.s3
  · exact World.cell?_setCell_same _ _ _ (by rw [h.s4])
  · rw [World.cell?_setCell_other _ _ _ _ (by simp)]; exact h1
theorem SiA.lost_ {Wb V W : World} {bb N : Nat} {ov : Value} {U : Nat → Bool} {many sets : Nat} {lost l2 : List Int} (h : SiA Wb V bb N ov U many sets lost) (hb : Below (Wb.heap.size + 2) V W) {A : Option Addr} {c : Nat} (ho : W.ownsRow (Wb.heap.size + 2) 2 1 (.slice A l2.length c) l2.length (l2.flatMap en1)) : SiA Wb (W.setCell ⟨Wb.heap.size + 1, 5, none⟩ (.slice A l2.length c)) bb N ov U many sets l2 := by
  obtain ⟨A0, c0, h1, h2⟩ := h.s5
  have hk : ∀ j, W.cell? ⟨Wb.heap.size + 1, j, none⟩ = V.cell? ⟨Wb.heap.size + 1, j, none⟩ := fun j => hb.cell (p := ⟨_, j, none⟩) (by show Wb.heap.size + 1 < _; omega)
  refine ⟨(h.below.trans (hb.mono (by omega))).setCell (by simp) _, by rw [World.size_setCell]; exact Nat.le_trans h.lt hb.size, ?_, ?_, ?_, ?_, ?_, ⟨A, c, ?_, own_set ho (by omega) _⟩, (h.up.below hb (by omega)).far (by omega) _, fun i j hi => by rw [World.frozen?_setCell, hb.frozen (p := ⟨_, j, none⟩) (by show Wb.heap.size + i < _; omega)]; exact h.fz i j hi⟩
  · rw [World.cell?_setCell_other _ _ _ _ (by simp), hk]; exact h.s0
  · rw [World.cell?_setCell_other _ _ _ _ (by simp), hk]; exact h.s1
  · rw [World.cell?_setCell_other _ _ _ _ (by simp), hk]; exact h.s2
  · rw [World.cell?_setCell_other _ _ _ _ (by simp), hk]; exact h.s3
  · rw [World.cell?_setCell_other _ _ _ _ (by simp), hk]; exact h.s4
  · exact World.cell?_setCell_same _ _ _ (by rw [hk, h1])
theorem SiA.up_ {Wb W : World} {bb N : Nat} {ov : Value} {U V : Nat → Bool} {many sets : Nat} {lost : List Int} (h : SiA Wb W bb N ov U many sets lost) {k : Nat} (hk : k < N) {x : Bool} (hV : ∀ i, V i = if i = k then x else U i) : SiA Wb (W.setCell ⟨Wb.heap.size, k, none⟩ (.bool x)) bb N ov V many sets lost := by
  obtain ⟨A, c, h1, h2⟩ := h.s5
  refine ⟨h.below.setCell (Nat.le_refl _) _, by rw [World.size_setCell]; exact h.lt, ?_, ?_, ?_, ?_, ?_, ⟨A, c, ?_, own_set h2 (by omega) _⟩, ⟨by rw [World.size_setCell]; exact h.up.lt, fun i hi => ?_⟩, fun i j hi => by rw [World.frozen?_setCell]; exact h.fz i j hi⟩
  · rw [World.cell?_setCell_other _ _ _ _ (by simp)]; exact h.s0
  · rw [World.cell?_setCell_other _ _ _ _ (by simp)]; exact h.s1
  · rw [World.cell?_setCell_other _ _ _ _ (by simp)]; exact h.s2
  · rw [World.cell?_setCell_other _ _ _ _ (by simp)]; exact h.s3
  · rw [World.cell?_setCell_other _ _ _ _ (by simp)]; exact h.s4
  · rw [World.cell?_setCell_other _ _ _ _ (by simp)]; exact h1
  · rw [hV i]
    by_cases e : i = k
    · subst e
      rw [if_pos rfl]
      exact World.cell?_setCell_same _ _ _ (by rw [h.up.c i hi])
    · rw [if_neg e, World.cell?_setCell_other _ _ _ _ (by simp; try omega)]
      exact h.up.c i hi
theorem Fr.cell {X n : Nat} {W W' : World} (f : Fr X n W W') {p : Addr} (hl : p.block < W.heap.size) (hx : p.block < X ∨ X + n ≤ p.block) : W'.cell? p = W.cell? p :=
  World.cell?_of_block (f.block _ hl hx)
theorem FaA.fr {X n : Nat} {W W' : World} (f : Fr X n W W') {g m : Nat} {E : Nat → Nat} (h : FaA W g m E) (hx : X + n ≤ g) : FaA W' g m E :=
  h.same f.size (f.block _ h.lt (.inr hx))
theorem zL_at {U : Nat → Bool} {n k j : Nat} (h : (stL U n)[k]? = some j) : (zL U n)[k]? = some (j : Int) := by
  unfold zL
  rw [List.getElem?_map, h]
  rfl
theorem zL_idx {U : Nat → Bool} {n p : Nat} (hp : U p = true) (h : p < n) : idxOf (isN (p : Int)) (zL U n) = (cU U p : Nat) := by
  refine idxOf_at ?_ (zL_at (stL_rank hp h)) (by unfold isN; simp)
  rw [List.any_eq_false]
  intro g hg
  obtain ⟨k, hk, e⟩ := List.mem_take_iff_getElem.1 hg
  have hk2 : k < (zL U n).length := by omega
  have h1 : (zL U n)[k]? = some g := by rw [List.getElem?_eq_getElem hk2, e]
  have h2 : (stL U n)[k]? = some ((stL U n)[k]'(by rw [stL_len]; rw [zL_len] at hk2; exact hk2)) := List.getElem?_eq_getElem _
  have h3 := zL_at h2
  rw [h1] at h3
  injection h3 with h3
  have h4 := (stL_at h2).2.2
  unfold isN
  simp only [decide_eq_true_eq]
  intro e2
  rw [h3] at e2
  have e3 : (stL U n)[k]'(by rw [stL_len]; rw [zL_len] at hk2; exact hk2) = p := by omega
  rw [e3] at h4
  have := (Nat.lt_min.1 (by simpa [List.length_take] using hk)).1
  omega
theorem held2 {w w1 : World} {a b : Addr} {u v : Value} (hb : Below w.heap.size w w1) (h : w.cell? a = some u ∧ w.cell? b = some v) : w1.cell? a = some u ∧ w1.cell? b = some v := ⟨cell_on hb h.1, cell_on hb h.2⟩
theorem off_next {U : Nat → Bool} {l : List Nat} {a : Nat} (i : Nat) : offU U (l ++ [a]) i = if i = a then false else offU U l i := by
  rw [off_snoc]
  dsimp only
  by_cases h : i = a
  · rw [if_pos h]; simp [h]
  · rw [if_neg h]; simp [h]
set_option maxRecDepth 100000 in
set_option maxHeartbeats 8000000 in
theorem knock_I (Wb : World) (bb : Nat) (wi hi : Int) (a : Option Addr) (c : Nat) (xs : List Pc) (ov : Value) (hB : BrdOk xs) (hn : xs.length ≤ 60) (HBD : ∀ W, Below Wb.heap.size Wb W → BdA W bb wi hi a xs.length c ∧ SlA Pc.enc 5 W a xs)
    (W : World) (s : BSt) (q : Kn) (hS : SiA Wb W bb xs.length ov s.U (cU s.U xs.length) s.sets s.lost) (hq : 0 ≤ q.pi ∧ q.pi < xs.length ∧ 0 ≤ q.sd ∧ q.sd ≤ 3) (hll : s.lost.length ≤ 60) :
    Calls Tryz.prog 77 #[.pointer (some ⟨Wb.heap.size + 1, 0, none⟩), .agg q.enc.toArray] W fun e w' => e = .returned (.tuple #[]) ∧ SiA Wb w' bb xs.length ov (knkB xs s q).U (cU (knkB xs s q).U xs.length) (knkB xs s q).sets (knkB xs s q).lost := by
  obtain ⟨U, sets, lost⟩ := s
  dsimp only at hS hll
  obtain ⟨P, hP⟩ : ∃ P : Nat, q.pi = P := ⟨q.pi.toNat, by omega⟩
  obtain ⟨S, hSd⟩ : ∃ S : Nat, q.sd = S := ⟨q.sd.toNat, by omega⟩
  have hPn : P < xs.length := by omega
  have hS4 : S < 4 := by omega
  have hkc := knock_cnt xs U q
  have hKn : knockL xs U q = if U P = true then goneL (Fal (boOf (selP U xs)) (one1 (cU U P) S)) (stL U xs.length) (cU U xs.length) else [] := by unfold knockL; rw [hP, hSd, Int.toNat_natCast, Int.toNat_natCast]
  have hgoal : ∀ w', SiA Wb w' bb xs.length ov (offU U (knockL xs U q)) (cU (offU U (knockL xs U q)) xs.length) sets (lost ++ [((knockL xs U q).length : Int)]) → SiA Wb w' bb xs.length ov (knkB xs ⟨U, sets, lost⟩ q).U (cU (knkB xs ⟨U, sets, lost⟩ q).U xs.length) (knkB xs ⟨U, sets, lost⟩ q).sets (knkB xs ⟨U, sets, lost⟩ q).lost := fun w' h => h
  have HGoal := hid hgoal
  obtain ⟨af, pi, sd⟩ := q
  dsimp only at hP hSd
  subst hP hSd
  have hN : (P : Int) < (xs.length : Int) := by omega
  have hcl := cU_le U xs.length
  simp only [Kn.enc] at *
  have b0 : ∀ o, Below W.heap.size W (W.alloc o) := fun o => (Below.refl _ _).alloc (Nat.le_refl _) o
  obtain ⟨W1, hW1⟩ : ∃ W1, W1 = (W.alloc (.cells #[.int .i64 af, .int .i64 (P : Int), .int .i8 (S : Int)] 78)).drew := ⟨_, rfl⟩
  have hB01 : Below W.heap.size W W1 := by rw [hW1]; exact (b0 _).drew
  have hS1 := hS.later hB01
  have g1 : W1.cell? ⟨W.heap.size, 1, none⟩ = some (.int .i64 (P : Int)) := by rw [hW1]; simp [go_sem]
  have g2 : W1.cell? ⟨W.heap.size, 2, none⟩ = some (.int .i8 (S : Int)) := by rw [hW1]; simp [go_sem]
  have t2 : ∀ o, (W.alloc o).cell? ⟨Wb.heap.size + 1, 2, none⟩ = some (.slice (some ⟨Wb.heap.size, 0, none⟩) xs.length xs.length) := fun o => cell_on (b0 o) hS.s2
  have hup := hS.up.c P hPn
  have tu : ∀ o, (W.alloc o).cell? ⟨Wb.heap.size, P, none⟩ = some (.bool (U P)) := fun o => cell_on (b0 o) hup
  have HS1 := hid hS1
  have HBD := hid HBD
  have HB := hid hB
  obtain ⟨d, hd⟩ : ∃ d, U P = d := ⟨_, rfl⟩
  rw [hd] at hKn tu
  cases d with
  | false =>
    have hk : knockL xs U ⟨af, (P : Int), (S : Int)⟩ = [] := hKn.trans (if_neg (by simp))
    rw [hk] at hgoal hkc
    have HGoal := hid hgoal
    have hw0 : IntKind.i64.wrap (((cU U xs.length : Nat) : Int) - 0) = ((cU U xs.length : Nat) : Int) := (IntWalk.i64_in _ (by omega)).trans (by omega)
    obtain ⟨M, hM⟩ : ∃ M, cU U xs.length = M := ⟨_, rfl⟩
    rw [hM] at hw0 HS1
    have HM := hid hM
    have hm0 : ((M : Nat) : Int) - 0 = M := by omega
    have hw00 : IntKind.i64.wrap ((M : Nat) : Int) = ((M : Nat) : Int) := IntWalk.i64_in _ (by omega)
    clear hS hS1 hKn hk hgoal hkc hup hd hB01 b0 hM g1 g2
    go_enter Tryz.func77, Tryz.ntmps77
    go_wp2_with fail
    go_region
    go_upto_region 19 with fail
    rw [← hW1]
    clear hW1 t2 tu
    have s3 := HS1.out.s3
    have z3 : W1.frozen? ⟨Wb.heap.size + 1, 3, none⟩ = false := HS1.out.fz 1 3 (by omega)
    obtain ⟨V1, hV1⟩ : ∃ V1, V1 = W1.setCell ⟨Wb.heap.size + 1, 3, none⟩ (.int .i64 (M : Nat)) := ⟨_, rfl⟩
    have hSV1 : SiA Wb V1 bb xs.length ov U M sets lost := by rw [hV1]; exact HS1.out.many_ M
    obtain ⟨Al, cl, s5, own⟩ := hSV1.s5
    have HSV1 := hid hSV1
    have HOL := hid own
    have hlV1 := hSV1.lt
    obtain ⟨nl, hnl⟩ : ∃ nl, lost.length = nl := ⟨_, rfl⟩
    have HNL := hid hnl
    have hnl60 : nl ≤ 60 := by omega
    rw [hnl] at s5 HOL
    clear hSV1 own hnl
    go_upto_region 20 with fail
    rw [← hV1]
    clear hV1 s3 z3
    go_wp2_with (at_builtin; refine app_one (w := V1) 26 2 (.int .i64 0) 1 8 Tryz.underlying26 (by kernel_rfl) rfl (by decide) (Wb.heap.size + 2) _ nl _ HOL.out ?d1 (by decide) hlV1 [.int .i64 (0 : Int)] _ _ rfl rfl rfl _ rfl ?d3 rfl (by intro u hu; simp at hu; rcases hu with rfl; rfl) ?_)
    case d1 => omega
    case d3 => rfl
    intro A5 c5 w5 own5 hb5 hg5 hat5
    have s5' : w5.cell? ⟨Wb.heap.size + 1, 5, none⟩ = some (.slice Al nl cl) := (hb5.cell (p := ⟨_, 5, none⟩) (by show Wb.heap.size + 1 < _; omega)).trans s5
    have z5' : w5.frozen? ⟨Wb.heap.size + 1, 5, none⟩ = false := (hb5.frozen (p := ⟨_, 5, none⟩) (by show Wb.heap.size + 1 < _; omega)).trans (HSV1.out.fz 1 5 (by omega))
    have HOn := hid (show w5.ownsRow (Wb.heap.size + 2) 2 1 (.slice A5 (lost ++ [(0 : Int)]).length c5) (lost ++ [(0 : Int)]).length ((lost ++ [(0 : Int)]).flatMap en1) by
      rw [flat_one, List.length_append, List.length_singleton, HNL.out]; exact own5)
    have HB5 := hid hb5
    have HLn := hid (show (lost ++ [(0 : Int)]).length = nl + 1 by rw [List.length_append, List.length_singleton, HNL.out])
    clear own5 hb5 hg5 hat5 s5
    go_wp2_with fail
    (first | go_end0 | refine bodyPost_ret (results_none rfl _ _ _) rfl ?_)
    refine ⟨rfl, ?_⟩
    have h := HSV1.out.lost_ HB5.out HOn.out
    rw [HLn.out] at h
    refine HGoal.out _ ?_
    rw [off_nil, HM.out]
    exact h
  | true =>
    have HKn := hid (hKn.trans (if_pos rfl))
    have HRk := hid (rank_lt (U := U) (n := xs.length) hd hPn)
    have HIdx := hid (zL_idx (U := U) (n := xs.length) hd hPn)
    have HD := hid hd
    have HKc := hid hkc
    obtain ⟨VL, hVL⟩ : ∃ V, V = W1 := ⟨_, rfl⟩
    have HB01 := hid hB01
    have k2s := hS1.s2
    have HG1 := hid g1
    have HG2 := hid g2
    clear hS hS1 hKn hgoal hkc hup hd hB01 b0 g1 g2
    subst hVL
    go_enter Tryz.func77, Tryz.ntmps77
    go_wp2_with fail
    go_region
    go_upto_region 3 with fail
    rw [← hW1]
    clear hW1 t2 tu
    have hA2 : ∀ o, (VL.alloc o).cell? ⟨Wb.heap.size + 1, 2, none⟩ = some (.slice (some ⟨Wb.heap.size, 0, none⟩) xs.length xs.length) := fun o => cell_on ((Below.refl _ _).alloc (Nat.le_refl _) o) k2s
    go_wp2_with fail
    go_loopw [5, 26] (fun lv iv wr => ∃ (k : Nat) (A : Option Addr) (cc nn : Nat), k ≤ xs.length ∧ iv = .int .i64 k ∧ lv = .slice A nn cc ∧ nn = cU U k ∧ wr.ownsRow VL.heap.size 2 1 (.slice A nn cc) nn ((zL U k).flatMap en1) ∧ Below VL.heap.size VL wr) (fun _ iv _ => xs.length - (intOf iv).toNat)
    case atStart => exact ⟨0, _, _, _, Nat.zero_le _, rfl, rfl, rfl, World.ownsRow_lit VL #[] 0 (Nat.le_refl _) (by simp [maxLen]) (by simp), (Below.refl _ _).alloc (Nat.le_refl _) _⟩
    case round =>
      obtain ⟨k, A, cc, nn, hk, rfl, rfl, hnn, own, hbl⟩ := hrel
      have HNN := hid hnn
      have HOw := hid own
      have HBL := hid hbl
      have hz := hbl.size
      have hnk : nn ≤ k := by rw [hnn]; exact cU_le _ _
      by_cases hlt : k < xs.length
      · have hdk : decide ((k : Int) < (xs.length : Int)) = true := by rw [decide_eq_true_iff]; omega
        have hki : (k : Int) < (xs.length : Int) := by omega
        have fu := ((HS1.out.later hbl).up).c k hlt
        have hcs : cU U (k + 1) = cU U k + if U k = true then 1 else 0 := rfl
        have hzs := zL_succ U k
        obtain ⟨pb, hpb⟩ : ∃ pb, U k = pb := ⟨_, rfl⟩
        rw [hpb] at fu hcs hzs
        clear hnn own hpb
        cases pb with
        | true =>
          rw [if_pos rfl] at hcs hzs
          have HCS := hid hcs
          have HZS := hid hzs
          clear hcs hzs
          go_wp2_with (at_builtin; refine app_one (w := wr) 26 2 (.int .i64 0) 1 8 Tryz.underlying26 (by kernel_rfl) rfl (by decide) VL.heap.size _ nn _ HOw.out ?d1 (by decide) hz [.int .i64 (k : Int)] _ _ rfl rfl rfl _ rfl ?d3 rfl (by intro u hu; simp at hu; rcases hu with rfl; rfl) ?_)
          case d1 => omega
          case d3 => rfl
          intro A5 c5 w5 own5 hb5 hg5 hat5
          have HO5 := hid own5
          have HB5 := hid (hbl.trans hb5)
          clear own5 hb5 hg5 hat5 hbl fu
          go_wp2_with fail
          exact ⟨⟨k + 1, A5, c5, nn + 1, by omega, by go_num, rfl, by rw [HCS.out, HNN.out], by rw [HZS.out, flat_one]; exact HO5.out, HB5.out⟩, by simp [intOf]; omega⟩
        | false =>
          rw [if_neg (by simp), Nat.add_zero] at hcs
          rw [if_neg (by simp), List.append_nil] at hzs
          have HCS := hid hcs
          have HZS := hid hzs
          clear hcs hzs hbl
          go_wp2_with fail
          exact ⟨⟨k + 1, A, cc, nn, by omega, by go_num, rfl, by rw [HCS.out, HNN.out]; rfl, by rw [HZS.out]; exact HOw.out, HBL.out⟩, by simp [intOf]; omega⟩
      · obtain rfl : k = xs.length := by omega
        have hdk : decide ((xs.length : Int) < (xs.length : Int)) = false := by rw [decide_eq_false_iff_not]; omega
        have HSr := hid (HS1.out.later hbl)
        have e0 := HSr.out.s0
        have hMl := stL_len U xs.length
        have hLm : ∀ j ∈ stL U xs.length, j < xs.length := fun j hj => (stL_mem.1 hj).1
        have HAt := hid (fun i j (h : (stL U xs.length)[i]? = some j) => zL_at (U := U) (n := xs.length) h)
        have HGo := hid (fun F => gone_off (F := F) (U := U) (n := xs.length))
        have hyl := sel_len U xs
        have HY := hid (sel_ok (U := U) HB.out)
        have hzl := zL_len U xs.length
        have hrowL : SlA en1 1 wr A (zL U xs.length) := en1_row (c := cc) (by rw [hzl, ← hnn]; exact own)
        have HOnly := hid (fun W2 (hW : Below wr.heap.size wr W2) => (show Calls Tryz.prog 39 #[.pointer (some ⟨bb, 0, none⟩), .slice A nn cc] W2 (ResBd W2 wi hi (selP U xs)) by
          rw [← only_sel]
          exact only_lenQ_I bb wi hi a c xs A cc (zL U xs.length) W2 (by omega) (HBD.out W2 (below_of HSr.out.below HSr.out.below.size hW)).1 (HBD.out W2 (below_of HSr.out.below HSr.out.below.size hW)).2 (hrowL.below hW) (fun g hg => ⟨(zL_mem hg).1, (zL_mem hg).2.1⟩) (by rw [hzl]; omega) nn (by rw [hzl, hnn])))
        have HIx := hid (fun W2 (hW : Below wr.heap.size wr W2) => (show Calls Tryz.prog 95 #[.slice A nn cc, .int .i64 (P : Int)] W2 fun e w' => e = .returned (.int .i64 (cU U P : Nat)) ∧ W2 = w' by
          rw [← HIdx.out]
          exact index_I A cc (zL U xs.length) (P : Int) W2 (hrowL.below hW) nn (by rw [hzl, hnn])))
        obtain ⟨ys, hys⟩ : ∃ ys, selP U xs = ys := ⟨_, rfl⟩
        obtain ⟨L, hL⟩ : ∃ L, stL U xs.length = L := ⟨_, rfl⟩
        obtain ⟨K, hK⟩ : ∃ K, cU U P = K := ⟨_, rfl⟩
        obtain ⟨M, hM⟩ : ∃ M, cU U xs.length = M := ⟨_, rfl⟩
        obtain ⟨F, hF⟩ : ∃ F, Fal (boOf ys) (one1 K S) = F := ⟨_, rfl⟩
        have HKn2 := hid (show knockL xs U ⟨af, (P : Int), (S : Int)⟩ = goneL F L M by rw [HKn.out, hys, hL, hK, hM, hF])
        have HGo2 := hid (HGo.out F)
        rw [hL, hM] at HGo2
        rw [hM] at hyl HRk HSr hnn hzl hMl hcl
        rw [hK] at HRk HIx
        rw [hL] at hMl hLm HAt
        rw [hys] at hyl HY HOnly
        obtain ⟨Z, hZ⟩ : ∃ Z, zL U xs.length = Z := ⟨_, rfl⟩
        rw [hZ] at HAt hrowL HOw
        have HM := hid hM
        have HMl := hid hMl
        have HLm := hid hLm
        have HYl := hid hyl
        have HRowL := hid hrowL
        have hg1 := cell_on hbl HG1.out
        have hg2 := cell_on hbl HG2.out
        have hKM : K < M := HRk.out
        have HFd := hid hF
        have hnM : nn = M := hnn
        subst hnM
        obtain ⟨V2, hV2⟩ : ∃ V, V = wr := ⟨_, rfl⟩
        subst hV2
        clear hMl hLm hyl hrowL hzl hZ hys hL hK hM hF own
        go_wp2_with fail
        refine (HOnly.out _ (Below.refl _ _)).mono ?_
        rintro e w3 ⟨A3, c3, rfl, hb3, own3⟩
        have hs3 := SlA.of_own Pc.enc_length own3
        obtain ⟨W4, hW4⟩ : ∃ W, W = w3.alloc (.cells #[.int .i8 wi, .int .i8 hi, .slice A3 ys.length c3] 32) := ⟨_, rfl⟩
        have hB34 : Below w3.heap.size w3 W4 := by rw [hW4]; exact (Below.refl _ _).alloc (Nat.le_refl _) _
        have hbd4 : BdA W4 w3.heap.size wi hi A3 ys.length c3 := by rw [hW4]; exact bd_box _ _ _ _ _ _ _
        have hs4 := hs3.below hB34
        have hB4 := below_of hb3 hb3.size hB34
        have HB4 := hid hB4
        have p1' := cell_on hB4 hg1
        have p2' := cell_on hB4 hg2
        have HStg := hid (fun W (hW : Below W4.heap.size W4 W) => stage_I w3.heap.size wi hi A3 c3 ys W (hbd4.below hW hbd4.lt) (hs4.below hW) HY.out.n HY.out.pc HY.out.one)
        have HS4 := hid (HSr.out.later hB4)
        clear hb3 own3 hs3 hB34 hbd4 hs4 hB4 hg1 hg2
        go_wp2_with fail
        rw [← hW4]
        clear hW4
        have HRun := hid (fun (T : StgD) (W : World) (la : Option Addr) (hT : Stg W T) (hx : T.xs = ys) (hl : SlA Q4.e64 4 W la [⟨0, (K : Int), (S : Int), -1⟩]) => (show Calls Tryz.prog 99 #[.pointer (some ⟨T.sb, 0, none⟩), .slice la 1 1] W fun e w' => ∃ g c, e = .returned (.slice (some ⟨g, 0, none⟩) nn c) ∧ Below W.heap.size W w' ∧ W.heap.size ≤ g ∧ FaA w' g nn F by
          have h := run_I W T hT (by rw [hx]; exact HY.out) la 1 [⟨0, (K : Int), (S : Int), -1⟩] hl (by simp) (one1 K S) (one_psh (by rw [hx, HYl.out]; exact hKM) hS4)
          rw [hx, HFd.out, HYl.out] at h
          exact h))
        have wsS : IntKind.i64.wrap (S : Int) = S := IntWalk.i64_in _ (by omega)
        go_cut [9] from 43 to 53 (fun s9 wx => ∃ g cf, s9 = .slice (some ⟨g, 0, none⟩) nn cf ∧ Below W4.heap.size W4 wx ∧ W4.heap.size ≤ g ∧ FaA wx g nn F)
        case first =>
          go_region_held3 (fun w' => w'.cell? ⟨W.heap.size, 1, none⟩ = some (.int .i64 P) ∧ w'.cell? ⟨W.heap.size, 2, none⟩ = some (.int .i8 S))
            (first | with_reducible assumption | with_reducible exact ⟨p1', p2'⟩ | exact held2 hb7 (by with_reducible assumption) | exact held2 hb8 (by with_reducible assumption) | exact held2 ((Below.refl _ _).alloc (Nat.le_refl _) _) (by with_reducible assumption) | exact held2 ((Below.refl _ _).drew) ⟨p1', p2'⟩)
            (first
              | (go_at_call 63; refine (HStg.out _ ?hb0).mono ?_; (case hb0 => first | exact (Below.refl _ _).drew | exact Below.refl _ _ | exact ((Below.refl _ _).alloc (Nat.le_refl _) _).drew | exact (Below.refl _ _).alloc (Nat.le_refl _) _); rintro e v1 ⟨T, rfl, hb7, hTx, hTa, hTl, hst⟩)
              | (go_at_call 95; refine (HIx.out _ ?hb0).mono ?_; (case hb0 => first | exact HB4.out.drew | exact HB4.out | exact below_of HB4.out.drew HB4.out.drew.size hb7); rintro e v2 ⟨rfl, hw2⟩; subst hw2)
              | (go_at_call 99; refine (HRun.out T _ _ ?st hTx ?sl).mono ?_; (case st => first | exact hst | exact hst.below ((Below.refl _ _).alloc (Nat.le_refl _) _)); (case sl => exact sla_one (q := ⟨0, (K : Int), (S : Int), -1⟩) _); rintro e v3 ⟨g, cf, rfl, hb8, hg8, hf8⟩))
          go_wp2_with fail
          go_meet
          have hz7 := hb7.size
          simp only [World.size_drew] at hz7
          simp only [World.size_alloc] at hg8
          exact ⟨g, cf, rfl, below_of ((below_of ((Below.refl W4.heap.size W4).drew) (by simp) hb7).alloc hz7 _) (by simp; omega) hb8, by omega, hf8⟩
        case rest =>
          obtain ⟨g, cf, rfl, hbx, hgx, hfx⟩ := hcut
          have hBx := below_of HB4.out HB4.out.size hbx
          have hSx := HS4.out.later hbx
          have hlx := HS4.out.lt
          have HSx := hid hSx
          have HFx := hid hfx
          have HRx := hid (show SlA en1 1 wc A Z from HRowL.out.below hBx)
          have HOx := hid (show wc.ownsRow VL.heap.size 2 1 (.slice A nn cc) nn (Z.flatMap en1) from own_step HOw.out hBx)
          have hVl := HS1.out.lt
          clear hbx hfx hBx hSx p1' p2'
          obtain ⟨VX, hVX⟩ : ∃ V, V = wc := ⟨_, rfl⟩
          subst hVX
          go_wp2_with fail
          go_loopw [4, 56] (fun fv iv wr => ∃ k : Nat, k ≤ nn ∧ iv = .int .i64 k ∧ fv = .int .i64 (cntF F k : Nat) ∧ SiA Wb wr bb xs.length ov (offU U (goneL F L k)) nn sets lost ∧ Fr Wb.heap.size 1 VX wr) (fun _ iv _ => nn - (intOf iv).toNat)
          case atStart => exact ⟨0, Nat.zero_le _, rfl, rfl, by rw [show goneL F L 0 = [] from rfl, off_nil]; exact HSx.out, Fr.refl _ _ _⟩
          case round =>
            obtain ⟨k, hk, rfl, rfl, hSk, hFr⟩ := hrel
            have HSk := hid hSk
            have HFr := hid hFr
            have hcf := cntF_le F k
            by_cases hlt : k < nn
            · have hdk : decide ((k : Int) < (nn : Int)) = true := by rw [decide_eq_true_iff]; omega
              have hki : (k : Int) < (nn : Int) := by omega
              have hfa := HFx.out.fr hFr (by omega)
              have f0 := hfa.c0 k hlt
              have f1 := hfa.c1 k hlt
              obtain ⟨by_, f2⟩ := hfa.c2 k hlt
              have hLk : L[k]? = some (L[k]'(by have := HMl.out; omega)) := List.getElem?_eq_getElem _
              obtain ⟨j, hj⟩ : ∃ j, L[k]'(by have := HMl.out; omega) = j := ⟨_, rfl⟩
              rw [hj] at hLk
              have hjn := HLm.out j (List.mem_of_getElem? hLk)
              have hga := gone_at (F := F) hLk
              have hce : cntF F (k + 1) = cntF F k + if F k < big then 1 else 0 := rfl
              obtain ⟨rb, hrb⟩ : ∃ r, decide (F k < big) = r := ⟨_, rfl⟩
              have hk1 : (keyT (F k) == (-1)) = !rb := by
                unfold keyT
                by_cases h : F k < big
                · rw [if_pos h, ← hrb, decide_eq_true h]
                  show _ = false
                  rw [beq_eq_false_iff_ne]
                  omega
                · rw [if_neg h, ← hrb, decide_eq_false h]
                  rfl
              have hk2 : (keyT (F k) != (-1)) = rb := by unfold bne; rw [hk1, Bool.not_not]
              generalize keyT (F k) = x at *
              generalize keyS (F k) = y at *
              have tb : ∀ o, Below wr.heap.size wr (wr.alloc o) := fun o => (Below.refl _ _).alloc (Nat.le_refl _) o
              have HTB := hid tb
              cases rb with
              | true =>
                have hF : F k < big := of_decide_eq_true hrb
                rw [if_pos hF] at hga hce
                have HGA := hid hga
                have HCE := hid hce
                obtain ⟨ab, ao, hAe, hab, hac⟩ := en1_cells HRx.out (by
                  have h := HAt.out k j hLk
                  have := (List.getElem?_eq_some_iff.1 h).1
                  omega)
                have hblk : VL.heap.size ≤ ab := by
                  have := own_some (w := VX) (g := ab) (by
                    have h := HOx.out
                    rw [hAe] at h
                    rcases h.2 with ⟨h1, _⟩ | ⟨g2, cap, cur, h1, _⟩
                    · cases h1
                    · injection h1 with h4
                      injection h4 with h5
                      injection h5 with h6 h7
                      subst h7
                      exact h)
                  exact this.2
                have fl0 : wr.cell? ⟨ab, ao + k, none⟩ = some (.int .i64 (j : Int)) := (HFr.out.cell (p := ⟨ab, _, none⟩) hab (.inr (by show Wb.heap.size + 1 ≤ ab; omega))).trans (hac k _ (HAt.out k j hLk))
                have t2 : ∀ o, (wr.alloc o).cell? ⟨Wb.heap.size + 1, 2, none⟩ = some (.slice (some ⟨Wb.heap.size, 0, none⟩) xs.length xs.length) := fun o => cell_on (tb o) hSk.s2
                have tl : ∀ o, (wr.alloc o).cell? ⟨ab, ao + k, none⟩ = some (.int .i64 (j : Int)) := fun o => cell_on (tb o) fl0
                have tu : ∀ o, (wr.alloc o).cell? ⟨Wb.heap.size, j, none⟩ = some (.bool (offU U (goneL F L k) j)) := fun o => cell_on (tb o) (hSk.up.c j hjn)
                have tz : ∀ o, (wr.alloc o).frozen? ⟨Wb.heap.size, j, none⟩ = false := fun o => (hSk.later (tb o)).fz 0 j (by omega)
                have hji : (j : Int) < (xs.length : Int) := by omega
                have HJ := hid hjn
                have wc : IntKind.i64.wrap (((cntF F k : Nat) : Int) + 1) = ((cntF F k : Nat) : Int) + 1 := IntWalk.i64_in _ (by omega)
                generalize cntF F k = ck at *
                subst hAe
                clear hfa hga hce hrb hF hj hLk hSk hFr tb hac fl0 hjn
                go_wp2_with fail
                go_region
                go_wp2_with fail
                have hS9 := (((HSk.out.later (HTB.out (.cells #[.int .i64 x, .int .i8 y, .int .i64 by_] 149)))).up_ HJ.out (V := offU U (goneL F L (k + 1))) (x := false) (by rw [HGA.out]; exact off_next)).later ((Below.refl _ _).drew)
                have hF9 := ((HFr.out.trans (Fr.of_below (HTB.out (.cells #[.int .i64 x, .int .i8 y, .int .i64 by_] 149)))).trans (Fr.store (X := Wb.heap.size) (n := 1) (i := 0) (j := j) _ (.bool false) (by omega))).trans (Fr.of_below ((Below.refl _ _).drew))
                exact ⟨⟨k + 1, by omega, by go_num, by rw [HCE.out]; go_num, hS9, hF9⟩, by simp [intOf]; omega⟩
              | false =>
                have hF : ¬ F k < big := of_decide_eq_false hrb
                rw [if_neg hF, List.append_nil] at hga
                rw [if_neg hF, Nat.add_zero] at hce
                have HGA := hid hga
                have HCE := hid hce
                generalize cntF F k = ck at *
                clear hfa hga hce hrb hF hj hLk hSk hFr tb
                go_wp2_with fail
                exact ⟨⟨k + 1, by omega, by go_num, by rw [HCE.out]; rfl, by rw [HGA.out]; exact HSk.out.later (HTB.out _), HFr.out.trans (Fr.of_below (HTB.out _))⟩, by simp [intOf]; omega⟩
            · obtain rfl : k = nn := by omega
              have hdk : decide ((k : Int) < (k : Int)) = false := by rw [decide_eq_false_iff_not]; omega
              have hgo := HGo2.out k (Nat.le_refl _)
              have hgl := gone_len F L k
              obtain ⟨fl, hfl⟩ : ∃ fl, cntF F k = fl := ⟨_, rfl⟩
              obtain ⟨M1, hM1⟩ : ∃ m, cU (offU U (goneL F L k)) xs.length = m := ⟨_, rfl⟩
              rw [hfl] at hgo hgl hcf
              rw [hM1] at hgo
              rw [hfl]
              have HM1 := hid hM1
              have HGL := hid hgl
              have hw0 : IntKind.i64.wrap ((k : Int) - (fl : Int)) = (M1 : Int) := (IntWalk.i64_in _ (by omega)).trans (by omega)
              obtain ⟨U1, hU1⟩ : ∃ U1, offU U (goneL F L k) = U1 := ⟨_, rfl⟩
              have HU1 := hid hU1
              rw [hU1] at HSk
              clear hfl hM1 hgl hSk hFr hU1 hgo
              have s3 := HSk.out.s3
              have z3 : wr.frozen? ⟨Wb.heap.size + 1, 3, none⟩ = false := HSk.out.fz 1 3 (by omega)
              obtain ⟨V1, hV1⟩ : ∃ V1, V1 = wr.setCell ⟨Wb.heap.size + 1, 3, none⟩ (.int .i64 (M1 : Nat)) := ⟨_, rfl⟩
              have hSV1 : SiA Wb V1 bb xs.length ov U1 M1 sets lost := by rw [hV1]; exact HSk.out.many_ M1
              obtain ⟨Al, cl, s5, own⟩ := hSV1.s5
              have HSV1 := hid hSV1
              have HOL := hid own
              have hlV1 := hSV1.lt
              obtain ⟨nl, hnl⟩ : ∃ nl, lost.length = nl := ⟨_, rfl⟩
              have HNL := hid hnl
              have hnl60 : nl ≤ 60 := by omega
              rw [hnl] at s5 HOL
              clear hSV1 own hnl
              go_upto_region 20 with fail
              rw [← hV1]
              clear hV1 s3 z3
              go_wp2_with (at_builtin; refine app_one (w := V1) 26 2 (.int .i64 0) 1 8 Tryz.underlying26 (by kernel_rfl) rfl (by decide) (Wb.heap.size + 2) _ nl _ HOL.out ?d1 (by decide) hlV1 [.int .i64 (fl : Int)] _ _ rfl rfl rfl _ rfl ?d3 rfl (by intro u hu; simp at hu; rcases hu with rfl; rfl) ?_)
              case d1 => omega
              case d3 => rfl
              intro A5 c5 w5 own5 hb5 hg5 hat5
              have s5' : w5.cell? ⟨Wb.heap.size + 1, 5, none⟩ = some (.slice Al nl cl) := (hb5.cell (p := ⟨_, 5, none⟩) (by show Wb.heap.size + 1 < _; omega)).trans s5
              have z5' : w5.frozen? ⟨Wb.heap.size + 1, 5, none⟩ = false := (hb5.frozen (p := ⟨_, 5, none⟩) (by show Wb.heap.size + 1 < _; omega)).trans (HSV1.out.fz 1 5 (by omega))
              have HOn := hid (show w5.ownsRow (Wb.heap.size + 2) 2 1 (.slice A5 (lost ++ [(fl : Int)]).length c5) (lost ++ [(fl : Int)]).length ((lost ++ [(fl : Int)]).flatMap en1) by
                rw [flat_one, List.length_append, List.length_singleton, HNL.out]; exact own5)
              have HB5 := hid hb5
              have HLn := hid (show (lost ++ [(fl : Int)]).length = nl + 1 by rw [List.length_append, List.length_singleton, HNL.out])
              clear own5 hb5 hg5 hat5 s5
              go_wp2_with fail
              (first | go_end0 | refine bodyPost_ret (results_none rfl _ _ _) rfl ?_)
              refine ⟨rfl, ?_⟩
              have h := HSV1.out.lost_ HB5.out HOn.out
              rw [HLn.out] at h
              refine HGoal.out _ ?_
              rw [HKn2.out, HGL.out, HM1.out, HU1.out]
              exact h
/-- The site in the state of the plain law. -/
def SiS (Wb W : World) (bb N : Nat) (ov : Value) (s : BSt) : Prop := SiA Wb W bb N ov s.U (cU s.U N) s.sets s.lost
theorem set_all {n : Nat} {ord : List Int} {s : BSt} (h : OrdOk n ord) (ha : ∀ j, j < n → ∀ g, ord[j]? = some g → (!s.U g.toNat) = false) : setB ord s = none :=
  (set_none h).2 (cU_all (fun k hk => by
    obtain ⟨m', hm'⟩ := List.mem_iff_getElem?.1 (h.all hk)
    have hml := (List.getElem?_eq_some_iff.1 hm').1
    have := ha m' (by have := h.len; omega) _ hm'
    rw [Int.toNat_natCast] at this
    simpa using this))
set_option maxRecDepth 100000 in
set_option maxHeartbeats 4000000 in
theorem setOne_I (Wb : World) (bb N : Nat) (a2 : Option Addr) (c2 : Nat) (ord : List Int) (hO : OrdOk N ord) (hN : N ≤ 60) (HORD : ∀ W, Below Wb.heap.size Wb W → SlA en1 1 W a2 ord)
    (W : World) (s : BSt) (hS : SiS Wb W bb N (.slice a2 N c2) s) (hs : s.sets ≤ 3720) :
    Calls Tryz.prog 78 #[.pointer (some ⟨Wb.heap.size + 1, 0, none⟩)] W fun e w' => e = .returned (.bool (setB ord s).isSome) ∧ SiS Wb w' bb N (.slice a2 N c2) ((setB ord s).getD s) := by
  unfold SiS at *
  have HS := hid hS
  have k1 := hS.s1
  have k2 := hS.s2
  have k3 := hS.s3
  have k4 := hS.s4
  have z3 : W.frozen? ⟨Wb.heap.size + 1, 3, none⟩ = false := hS.fz 1 3 (by omega)
  have z4 : W.frozen? ⟨Wb.heap.size + 1, 4, none⟩ = false := hS.fz 1 4 (by omega)
  have HOr := hid (HORD W hS.below)
  have HO := hid hO
  have hol := hO.len
  have HOL := hid hol
  have hcu := cU_le s.U N
  obtain ⟨M, hM⟩ : ∃ M, cU s.U N = M := ⟨_, rfl⟩
  have HM := hid hM
  rw [hM] at k3 hcu HS
  obtain ⟨S0, hS0⟩ : ∃ S0, s.sets = S0 := ⟨_, rfl⟩
  rw [hS0] at k4 hs HS
  have HS0 := hid hS0
  obtain ⟨R, hR⟩ : ∃ R, setB ord s = R := ⟨_, rfl⟩
  have HR := hid hR
  rw [hR]
  clear hS hO hol hM hS0 hR
  have wm : IntKind.i64.wrap ((M : Int) + 1) = (M : Int) + 1 := IntWalk.i64_in _ (by omega)
  have wS : IntKind.i64.wrap ((S0 : Int) + 1) = (S0 : Int) + 1 := IntWalk.i64_in _ (by omega)
  go_enter Tryz.func78, Tryz.ntmps78
  go_wp2_with fail
  go_loopw [10] (fun iv wr => ∃ k : Nat, k ≤ N ∧ iv = .int .i64 k ∧ (∀ j, j < k → ∀ g, ord[j]? = some g → (!s.U g.toNat) = false) ∧ wr = W) (fun iv _ => N - (intOf iv).toNat)
  case atStart => exact ⟨0, Nat.zero_le _, rfl, fun j hj => absurd hj (Nat.not_lt_zero _), rfl⟩
  case round =>
    obtain ⟨k, hk, rfl, hpre, rfl⟩ := hrel
    have HPre := hid hpre
    clear hpre
    by_cases hlt : k < N
    · have hdk : decide ((k : Int) < (N : Int)) = true := by rw [decide_eq_true_iff]; omega
      have hki : (k : Int) < (N : Int) := by omega
      obtain ⟨ob, oo, rfl, hob, hoc⟩ := en1_cells HOr.out (by have := HOL.out; omega)
      have eg1 : ord[k]? = some (ord[k]'(by have := HOL.out; omega)) := List.getElem?_eq_getElem _
      obtain ⟨g, hg⟩ : ∃ g, ord[k]'(by have := HOL.out; omega) = g := ⟨_, rfl⟩
      rw [hg] at eg1
      have hgr := HO.out.rng g (List.mem_of_getElem? eg1)
      obtain ⟨j, rfl⟩ : ∃ j : Nat, g = j := ⟨g.toNat, by omega⟩
      have hjn : j < N := by omega
      have hji : (j : Int) < (N : Int) := by omega
      have fg := hoc k _ eg1
      have HEG := hid eg1
      have fu := HS.out.up.c j hjn
      have zu : wr.frozen? ⟨Wb.heap.size, j, none⟩ = false := HS.out.fz 0 j (by omega)
      obtain ⟨pb, hpb⟩ : ∃ pb, s.U j = pb := ⟨_, rfl⟩
      rw [hpb] at fu
      have HPB := hid hpb
      clear hg eg1 hgr hoc hpb
      cases pb with
      | true =>
        go_wp2_with fail
        refine ⟨⟨k + 1, by omega, by go_num, fun j' hj' g hg => ?_, trivial⟩, by simp [intOf]; omega⟩
        by_cases e : j' = k
        · subst e
          have := HEG.out.symm.trans hg
          cases this
          rw [Int.toNat_natCast, HPB.out]; rfl
        · exact HPre.out j' (by omega) g hg
      | false =>
        have hsb : setB ord s = some ⟨fun y => decide (y = j) || s.U y, s.sets + 1, s.lost⟩ := by
          unfold setB
          rw [find_first (p := fun g : Int => !s.U g.toNat) HEG.out (by show (!s.U (j : Int).toNat) = true; rw [Int.toNat_natCast, HPB.out]; rfl) HPre.out]
          dsimp only
          rw [Int.toNat_natCast]
        have hRe := HR.out.symm.trans hsb
        have HRe := hid hRe
        have h9 := ((HS.out.up_ hjn (V := fun y => decide (y = j) || s.U y) (x := true) (fun i => by
          by_cases e : i = j
          · simp [e]
          · simp [e])).many_ (M + 1)).sets_ (S0 + 1)
        have HJ := hid hjn
        have H9 := hid (h9.later ((Below.refl _ _).drew))
        clear hsb hRe h9 hjn
        go_wp2_with fail
        go_region
        go_wp2_with fail
        go_ret
        rw [HRe.out]
        refine ⟨rfl, ?_⟩
        have h := H9.out
        show SiA Wb _ bb N _ (fun y => decide (y = j) || s.U y) (cU (fun y => decide (y = j) || s.U y) N) (s.sets + 1) s.lost
        rw [cU_set HPB.out HJ.out, HM.out, HS0.out]
        exact h
    · obtain rfl : k = N := by omega
      have hdk : decide ((k : Int) < (k : Int)) = false := by rw [decide_eq_false_iff_not]; omega
      have hRe := HR.out.symm.trans (set_all HO.out HPre.out)
      have HRe := hid hRe
      clear hRe
      go_wp2_with fail
      go_ret
      rw [HRe.out]
      refine ⟨rfl, ?_⟩
      show SiA Wb _ bb k _ s.U (cU s.U k) s.sets s.lost
      rw [HM.out, HS0.out]
      exact HS.out
def siteM (X N K : Nat) (w : World) : Nat := (K - lenV ((w.cell? ⟨X + 1, 5, none⟩).getD (.bool false))) * (N + 1) + (N - (intOf ((w.cell? ⟨X + 1, 3, none⟩).getD (.bool false))).toNat)
def siteK (X K : Nat) (w : World) : Nat := K - lenV ((w.cell? ⟨X + 1, 5, none⟩).getD (.bool false))
theorem SiS.m {Wb W : World} {bb N : Nat} {ov : Value} {s : BSt} (h : SiS Wb W bb N ov s) (K : Nat) : siteM Wb.heap.size N K W = muB N K s := by
  obtain ⟨A, c, h5, _⟩ := h.s5
  unfold siteM muB
  rw [h5, h.s3]
  rfl
theorem SiS.k {Wb W : World} {bb N : Nat} {ov : Value} {s : BSt} (h : SiS Wb W bb N ov s) (K : Nat) : siteK Wb.heap.size K W = K - s.lost.length := by
  obtain ⟨A, c, h5, _⟩ := h.s5
  unfold siteK
  rw [h5]
  rfl
theorem sis_new (w : World) (bb N : Nat) (ov : Value) (t1 t2 : TypeId) : SiS w ((w.alloc (.cells (madeCells #[.bool false] N) t1)).alloc (.cells #[.pointer (some ⟨bb, 0, none⟩), ov, .slice (some ⟨w.heap.size, 0, none⟩) N N, .int .i64 0, .int .i64 0, .slice none 0 0] t2)) bb N ov st0 := by
  have h1 : Below (w.heap.size + 1) (w.alloc (.cells (madeCells #[.bool false] N) t1)) ((w.alloc (.cells (madeCells #[.bool false] N) t1)).alloc (.cells #[.pointer (some ⟨bb, 0, none⟩), ov, .slice (some ⟨w.heap.size, 0, none⟩) N N, .int .i64 0, .int .i64 0, .slice none 0 0] t2)) := (Below.refl _ _).alloc (by simp) _
  unfold SiS
  rw [show cU st0.U N = 0 from cU_none N]
  refine ⟨((Below.refl _ _).alloc (Nat.le_refl _) _).alloc (by simp) _, by simp, by simp [go_sem], by simp [go_sem], by simp [go_sem], by simp [go_sem], by simp [go_sem, st0], ⟨none, 0, by simp [go_sem, st0], World.ownsRow_nil _ _ _ _⟩, (dn_made w N t1).below h1 (by omega), fun i j hi => ?_⟩
  have : i = 0 ∨ i = 1 := by omega
  rcases this with rfl | rfl
  · exact (h1.frozen (p := ⟨_, j, none⟩) (by show w.heap.size + 0 < _; omega)).trans (fz_made w _ t1 j)
  · simp [go_sem]
/-- What 'built' hands back: the site, or a code. -/
def BuiltP (w : World) (wi hi : Int) (xs : List Pc) (gs : List Int) (kn : List Kn) (e : Ending) (w' : World) : Prop :=
  Below w.heap.size w w' ∧ ((KnockedG wi hi xs gs kn ≠ 0 ∧ e = .returned (.tuple #[.pointer none, .int .i64 (KnockedG wi hi xs gs kn)])) ∨
    (KnockedG wi hi xs gs kn = 0 ∧ ∃ sb A c, e = .returned (.tuple #[.pointer (some ⟨sb, 0, none⟩), .int .i64 0]) ∧ w'.cell? ⟨sb, 4, none⟩ = some (.int .i64 ((siteR xs gs kn).sets : Nat)) ∧ w'.cell? ⟨sb, 5, none⟩ = some (.slice A (siteR xs gs kn).lost.length c) ∧
      w'.ownsRow w.heap.size 2 1 (.slice A (siteR xs gs kn).lost.length c) (siteR xs gs kn).lost.length ((siteR xs gs kn).lost.flatMap en1)))
theorem bad_any {n : Int} {kn : List Kn} {r : Bool} (h : kn.any (fun q => !knOk n q) = r) : kn.all (knOk n) = !r := by
  subst h
  induction kn with
  | nil => rfl
  | cons q l ih => rw [List.all_cons, List.any_cons, ih, Bool.not_or, Bool.not_not]
set_option maxRecDepth 100000 in
set_option maxHeartbeats 8000000 in
theorem built_I (w : World) (wi hi : Int) (wl : -128 ≤ wi) (wu : wi ≤ 127) (hl : -128 ≤ hi) (hu : hi ≤ 127) (a : Option Addr) (c : Nat) (xs : List Pc) (h : SlA Pc.enc 5 w a xs) (ok : ∀ p ∈ xs, p.Ok) (hs : xs.length ≤ 1048576) (a2 : Option Addr) (c2 : Nat) (gs : List Int) (h2 : SlA en1 1 w a2 gs) (hs2 : gs.length ≤ 1048576)
    (a3 : Option Addr) (c3 : Nat) (kn : List Kn) (h3 : SlA Kn.enc 3 w a3 kn) (ok3 : ∀ p ∈ kn, p.Ok) (hs3 : kn.length ≤ 1048576) :
    Calls Tryz.prog 53 #[.agg #[.int .i8 wi, .int .i8 hi, .slice a xs.length c], .slice a2 gs.length c2, .slice a3 kn.length c3] w (BuiltP w wi hi xs gs kn) := by
  obtain ⟨W0, hW0⟩ : ∃ W, W = w.alloc (.cells #[.int .i8 wi, .int .i8 hi, .slice a xs.length c] 32) := ⟨_, rfl⟩
  have B0 : Below w.heap.size w W0 := by rw [hW0]; exact (Below.refl _ _).alloc (Nat.le_refl _) _
  have hbd : BdA W0 w.heap.size wi hi a xs.length c := by rw [hW0]; exact bd_box _ _ _ _ _ _ _
  have d0 : W0.cell? ⟨w.heap.size, 0, none⟩ = some (.int .i8 wi) := hbd.c0
  have d1 : W0.cell? ⟨w.heap.size, 1, none⟩ = some (.int .i8 hi) := hbd.c1
  have d2 : W0.cell? ⟨w.heap.size, 2, none⟩ = some (.slice a xs.length c) := hbd.c2
  have HAs := hid (orderOk_I wi hi a c xs a2 c2 gs W0 ⟨wl, wu, hl, hu⟩ hs (h.below B0) ok (h2.below B0) hs2)
  have HB0 := hid B0
  have HBD := hid (fun W (hb : Below W0.heap.size W0 W) => (⟨hbd.below hb hbd.lt, (h.below B0).below hb⟩ : BdA W w.heap.size wi hi a xs.length c ∧ SlA Pc.enc 5 W a xs))
  have HORow := hid (fun W (hb : Below W0.heap.size W0 W) => (h2.below B0).below hb)
  have HKRow := hid (fun W (hb : Below W0.heap.size W0 W) => (h3.below B0).below hb)
  have he : ∀ args W, (callFunc 74 args).run Tryz.prog W = .ok (.enter 74 args) W := enters_of Tryz.func74 (by kernel_rfl) rfl
  have HHas := hid (fun W (hb : Below W0.heap.size W0 W) => has_Kn 74 he #[.pointer (some ⟨w.heap.size, 0, none⟩)] (fun q => !knOk xs.length q) a3 c3 kn W ((h3.below B0).below hb) (fun p hp W2 hW2 => bad_I p (ok3 p hp) w.heap.size wi hi a xs.length c W2 ((hbd.below hb hbd.lt).below hW2 (Nat.lt_of_lt_of_le hbd.lt hb.size)) hs))
  have hG : KnockedG wi hi xs gs kn = if orderG wi hi xs gs = 0 then (if plainK xs.length kn = true then 0 else 2) else orderG wi hi xs gs := rfl
  have hz : KnockedG wi hi xs gs kn = 0 → _ := knocked_zero
  obtain ⟨v, hv⟩ : ∃ v, orderG wi hi xs gs = v := ⟨_, rfl⟩
  rw [hv] at hG HAs
  clear h h2 h3 ok ok3 hv hbd B0
  by_cases hv0 : v = 0
  · subst hv0
    rw [if_pos rfl] at hG
    obtain ⟨nb, hnb⟩ : ∃ nb, kn.any (fun q => !knOk xs.length q) = nb := ⟨_, rfl⟩
    rw [hnb] at HHas
    have hall := bad_any hnb
    have hpk : plainK xs.length kn = (kn.all (knOk xs.length) && decide (kn.length ≤ 60)) := rfl
    rw [hall] at hpk
    clear hall hnb
    by_cases hbad : kn.length > 60 ∨ nb = true
    · have hG2 : KnockedG wi hi xs gs kn = 2 := by
        rw [hG, hpk, if_neg]
        rcases hbad with h | h
        · rw [decide_eq_false (by omega), Bool.and_false]; simp
        · rw [h]; simp
      have HG := hid hG2
      have hcase : (decide ((kn.length : Int) > 60) = true) ∨ (decide ((kn.length : Int) > 60) = false ∧ nb = true) := by
        by_cases h : kn.length > 60
        · exact .inl (by rw [decide_eq_true_iff]; omega)
        · exact .inr ⟨by rw [decide_eq_false_iff_not]; omega, hbad.resolve_left h⟩
      clear hG hG2 hpk hbad hz
      rcases hcase with e1 | ⟨e1, rfl⟩
      all_goals (
        go_enter Tryz.func53, Tryz.ntmps53
        go_upto_region 1 with fail
        rw [← hW0]
        clear hW0
        go_wp2_with fail
        refine HAs.out.mono ?_
        rintro e w1 ⟨rfl, hb1⟩
        have HB1 := hid hb1
        clear hb1 d0 d1 d2
        go_wp2_with fail
        refine (HHas.out _ HB1.out).mono ?_
        rintro e w2 ⟨rfl, hb2⟩
        have HB2 := hid (below_of HB0.out HB0.out.size (below_of HB1.out HB1.out.size hb2))
        clear hb2
        go_wp2_with fail
        refine bodyPost_ret (v := .tuple #[.pointer none, .int .i64 2]) (by simp [results, Tryz.results53, go_sem]) rfl ?_
        exact ⟨HB2.out, .inl ⟨by rw [HG.out]; decide, by rw [HG.out]⟩⟩)
    · have hkl : kn.length ≤ 60 := by by_cases h : kn.length > 60; exact absurd (.inl h) hbad; omega
      have hnb : nb = false := by cases nb with | true => exact absurd (.inr rfl) hbad | false => rfl
      subst hnb
      have hG0 : KnockedG wi hi xs gs kn = 0 := by
        rw [hG, hpk, if_pos]
        rw [decide_eq_true hkl]; rfl
      obtain ⟨hB, hn, hO, hKn, _⟩ := hz hG0
      have HG := hid hG0
      have e1 : decide ((kn.length : Int) > 60) = false := by rw [decide_eq_false_iff_not]; omega
      have HO := hid hO
      have hol := hO.len
      have HKn := hid hKn
      have HB := hid hB
      have hM0 := mu_st0 xs.length kn.length (by omega) hkl
      obtain ⟨R, hR⟩ : ∃ R, siteR xs gs kn = R := ⟨_, rfl⟩
      have HR := hid (show bldR xs gs kn (muB xs.length kn.length st0 + 1) st0 = R from hR)
      have HRe := hid hR
      have hmk := make_any (P := Tryz.prog) 84 4 (.bool false) 1 1 Tryz.underlying84 (by kernel_rfl) xs.length (by omega) (by omega)
      rw [hol] at HAs ⊢
      clear hG hG0 hpk hbad hz hR hB hKn hO hol
      go_enter Tryz.func53, Tryz.ntmps53
      go_upto_region 1 with fail
      rw [← hW0]
      clear hW0
      go_wp2_with fail
      refine HAs.out.mono ?_
      rintro e w1 ⟨rfl, hb1⟩
      have HB1 := hid hb1
      clear hb1 d0 d1 d2
      go_wp2_with fail
      refine (HHas.out _ HB1.out).mono ?_
      rintro e w2 ⟨rfl, hb2⟩
      have hB2 := below_of HB1.out HB1.out.size hb2
      have HB2 := hid hB2
      have k2 := (HBD.out w2 hB2).1.c2
      obtain ⟨W3, hW3⟩ : ∃ W, W = (w2.alloc (.cells (madeCells #[.bool false] xs.length) 4)).alloc (.cells #[.pointer (some ⟨w.heap.size, 0, none⟩), .slice a2 xs.length c2, .slice (some ⟨w2.heap.size, 0, none⟩) xs.length xs.length, .int .i64 0, .int .i64 0, .slice none 0 0] 86) := ⟨_, rfl⟩
      have HS3 := hid (show SiS w2 W3 w.heap.size xs.length (.slice a2 xs.length c2) st0 by rw [hW3]; exact sis_new _ _ _ _ _ _)
      clear hb2 hB2
      go_wp2_with fail
      rw [← hW3]
      clear hW3 k2 hmk
      go_loopw [56] (fun _ wr => ∃ (s : BSt) (f : Nat), muB xs.length kn.length s < f ∧ bldR xs gs kn f s = R ∧ s.sets + muB xs.length kn.length s ≤ muB xs.length kn.length st0 ∧ s.lost.length ≤ kn.length ∧ SiS w2 wr w.heap.size xs.length (.slice a2 xs.length c2) s) (fun _ wr => siteM w2.heap.size xs.length kn.length wr)
      case atStart => exact ⟨st0, _, Nat.lt_succ_self _, HR.out, by show 0 + _ ≤ _; omega, Nat.zero_le _, HS3.out⟩
      case round =>
        obtain ⟨s0, f0, hmu0, hrun0, hsets0, hll0, hS0⟩ := hrel
        have HMu0 := hid hmu0
        have HRun0 := hid hrun0
        have HSets0 := hid hsets0
        have HLl0 := hid hll0
        have HS0 := hid hS0
        obtain ⟨V0, hV0⟩ : ∃ V, V = wr := ⟨_, rfl⟩
        subst hV0
        have HM00 := hid (SiS.m hS0 kn.length)
        clear hmu0 hrun0 hsets0 hll0 hS0
        go_wp2_with fail
        go_loopw [56] (fun _ wr => ∃ (s : BSt) (f : Nat), muB xs.length kn.length s < f ∧ bldR xs gs kn f s = R ∧ s.sets + muB xs.length kn.length s ≤ muB xs.length kn.length st0 ∧ s.lost.length ≤ kn.length ∧ muB xs.length kn.length s ≤ muB xs.length kn.length s0 ∧ SiS w2 wr w.heap.size xs.length (.slice a2 xs.length c2) s) (fun _ wr => siteK w2.heap.size kn.length wr)
        case atStart => exact ⟨s0, f0, HMu0.out, HRun0.out, HSets0.out, HLl0.out, Nat.le_refl _, HS0.out⟩
        case round =>
          obtain ⟨s, f, hmu, hrun, hsets, hll, hmle, hS⟩ := hrel
          have HMu := hid hmu
          have HRun := hid hrun
          have HSets := hid hsets
          have HMle := hid hmle
          have HS := hid hS
          have HK0 := hid (SiS.k hS kn.length)
          have hBW : Below W0.heap.size W0 wr := below_of HB2.out HB2.out.size hS.below
          have k3 := hS.s3
          obtain ⟨A5, c5, k5, _⟩ := hS.s5
          obtain ⟨n2, hn2⟩ : ∃ n, s.lost.length = n := ⟨_, rfl⟩
          obtain ⟨M, hM⟩ : ∃ m, cU s.U xs.length = m := ⟨_, rfl⟩
          rw [hn2] at k5 hll HK0
          rw [hM] at k3
          have HN2 := hid hn2
          have HM := hid hM
          clear hmu hrun hsets hn2 hM
          by_cases hc : ∃ q, kn[n2]? = some q ∧ q.af = (M : Int)
          · obtain ⟨q, hq, haf⟩ := hc
            have hlt := (List.getElem?_eq_some_iff.1 hq).1
            obtain ⟨kb, ko, rfl, hkb, hkc⟩ := (HKRow.out wr hBW).cells (by omega)
            have f0' : wr.cell? ⟨kb, ko + n2 * 3, none⟩ = some (.int .i64 (M : Int)) := by rw [← haf]; exact hkc n2 _ hq 0 _ rfl
            have f1' : wr.cell? ⟨kb, ko + n2 * 3 + 1, none⟩ = some (.int .i64 q.pi) := hkc n2 _ hq 1 _ rfl
            have f2' : wr.cell? ⟨kb, ko + n2 * 3 + 2, none⟩ = some (.int .i8 q.sd) := hkc n2 _ hq 2 _ rfl
            have hkq := HKn.out q (List.mem_of_getElem? hq)
            have hrg : 0 ≤ q.pi ∧ q.pi < xs.length ∧ 0 ≤ q.sd ∧ q.sd ≤ 3 := by
              unfold knOk at hkq
              simp only [Bool.and_eq_true] at hkq
              have h1 := inB_iff.1 hkq.2.1
              have h2 := inB_iff.1 hkq.2.2
              omega
            have hstep := step_knk (xs := xs) (ord := gs) (kn := kn) (s := s) (q := q) (by rw [HN2.out]; exact hq) (by rw [HM.out]; exact haf)
            have HStep := hid hstep
            have HKnk := hid (fun W2 (hS2 : SiS w2 W2 w.heap.size xs.length (.slice a2 xs.length c2) s) => knock_I w2 w.heap.size wi hi a c xs (.slice a2 xs.length c2) HB.out (by omega) (fun W hW => HBD.out W (below_of HB2.out HB2.out.size hW)) W2 s q hS2 hrg (by have := HN2.out; omega))
            obtain ⟨af, pi, sd⟩ := q
            dsimp only at f0' f1' f2' haf
            subst haf
            have hd : decide ((n2 : Int) < (kn.length : Int)) = true := by rw [decide_eq_true_iff]; omega
            have hni : (n2 : Int) < (kn.length : Int) := by omega
            have hee : ((M : Int) == (M : Int)) = true := by simp
            have hmk2 := mu_knk (xs := xs) (K := kn.length) (s := s) (q := ⟨(M : Int), pi, sd⟩) (by have := HN2.out; omega)
            have HMK := hid hmk2
            simp only [Kn.enc] at HKnk
            clear hS hstep hrg hkq hkc hq hmk2
            go_upto_region 8 with fail
            go_quiet (fail)
            go_wp2_with fail
            refine (HKnk.out _ (HS.out.later (below_drewN (Below.refl _ _) _))).mono ?_
            rintro e w5 ⟨rfl, hS5⟩
            have HS5 := hid (show SiS w2 w5 w.heap.size xs.length (.slice a2 xs.length c2) (knkB xs s ⟨(M : Int), pi, sd⟩) from hS5)
            have hk5 := SiS.k HS5.out kn.length
            have hl5 : (knkB xs s ⟨(M : Int), pi, sd⟩).lost.length = n2 + 1 := by
              show (s.lost ++ _).length = _
              rw [List.length_append, List.length_singleton, HN2.out]
            have HK5 := hid hk5
            have HL5 := hid hl5
            clear hS5 hk5 hl5
            go_wp2_with fail
            refine ⟨⟨knkB xs s ⟨(M : Int), pi, sd⟩, f - 1, by have := HMK.out; have := HMu.out; omega, ?_, ?_, by have := HL5.out; omega, by have := HMK.out; omega, HS5.out⟩, ?_⟩
            · have h1 := HRun.out
              rw [show f = f - 1 + 1 by have := HMu.out; omega, bld_go HStep.out] at h1
              exact h1
            · have := HSets.out
              have := HMK.out
              show s.sets + _ ≤ _
              omega
            · have h1 := HK0.out
              have h2 := HK5.out
              have h3 := HL5.out
              rw [h1, h2, h3]
              omega
          · have hstp : stepB xs gs kn s = setB gs s := step_set (fun q hq ha => hc ⟨q, by rw [← HN2.out]; exact hq, by rw [← HM.out]; exact ha⟩)
            have hcc : n2 = kn.length ∨ ∃ q, n2 < kn.length ∧ kn[n2]? = some q ∧ q.af ≠ (M : Int) := by
              by_cases h : n2 = kn.length
              · exact .inl h
              · exact .inr ⟨kn[n2]'(by omega), by omega, List.getElem?_eq_getElem _, fun e => hc ⟨_, List.getElem?_eq_getElem (by omega), e⟩⟩
            have HStp := hid hstp
            have HSO := hid (fun W2 (hS2 : SiS w2 W2 w.heap.size xs.length (.slice a2 xs.length c2) s) => setOne_I w2 w.heap.size xs.length a2 c2 gs HO.out (by omega) (fun W hW => HORow.out W (below_of HB2.out HB2.out.size hW)) W2 s hS2 (by have := HSets.out; omega))
            have HKr := hid ((HKRow.out wr hBW).cells)
            obtain ⟨st, hst⟩ : ∃ st, setB gs s = st := ⟨_, rfl⟩
            rw [hst] at HSO
            have HSt := hid hst
            clear hS hstp hc hst
            rcases hcc with hcl | ⟨q, hlt, hq, hne⟩
            · have hd : decide ((n2 : Int) < (kn.length : Int)) = false := by rw [decide_eq_false_iff_not]; omega
              have hd2 : decide (n2 < kn.length) = false := by rw [decide_eq_false_iff_not]; omega
              have hni : ¬ (n2 : Int) < (kn.length : Int) := by omega
              have hnn : ¬ n2 < kn.length := by omega
              clear hcl
              go_upto_region 8 with fail
              go_quiet (fail)
              go_wp2_with fail
              refine (HSO.out _ (HS.out.later (below_drewN (Below.refl _ _) _))).mono ?_
              rintro e w5 ⟨rfl, hS5⟩
              cases st with
              | none =>
                have HS5 := hid (show SiS w2 w5 w.heap.size xs.length (.slice a2 xs.length c2) s from hS5)
                have hfin : R = s := by
                  rw [← HRun.out]
                  exact bld_end (HStp.out.trans HSt.out) _
                have HFin := hid hfin
                clear hS5 hfin
                go_wp2_with fail
                refine bodyPost_ret (v := .tuple #[.pointer (some ⟨w2.heap.size + 1, 0, none⟩), .int .i64 0]) (by simp [results, Tryz.results53, go_sem]) rfl ?_
                have hb9 := below_of HB0.out HB0.out.size (below_of HB2.out HB2.out.size HS5.out.below)
                obtain ⟨A9, c9, h5, ho⟩ := HS5.out.s5
                refine ⟨hb9, .inr ⟨HG.out, w2.heap.size + 1, A9, c9, rfl, ?_, ?_, ?_⟩⟩
                · rw [HRe.out, HFin.out]; exact HS5.out.s4
                · rw [HRe.out, HFin.out]; exact h5
                · rw [HRe.out, HFin.out]; exact own_low ho (by have := (below_of HB0.out HB0.out.size HB2.out).size; omega)
              | some t =>
                have HS5 := hid (show SiS w2 w5 w.heap.size xs.length (.slice a2 xs.length c2) t from hS5)
                obtain ⟨i, hin, hfi, hUi, ht⟩ := set_some (n := xs.length) HO.out HSt.out
                have hms := mu_set (n := xs.length) (K := kn.length) (s := s) (i := i) hin hUi
                rw [← ht] at hms
                have htl : t.lost.length = n2 := by rw [ht]; exact HN2.out
                have hts : t.sets = s.sets + 1 := by rw [ht]
                have HMs := hid hms
                have HTl := hid htl
                have HTs := hid hts
                clear hS5 hms htl hts ht hfi hUi hin
                go_wp2_with fail
                refine ⟨⟨t, f - 1, by have := HMs.out; have := HMu.out; omega, ?_, by have := HMs.out; have := HSets.out; have := HTs.out; omega, by have := HTl.out; omega, HS5.out⟩, ?_⟩
                · have h1 := HRun.out
                  rw [show f = f - 1 + 1 by have := HMu.out; omega, bld_go (HStp.out.trans HSt.out)] at h1
                  exact h1
                · have h1 := SiS.m HS5.out kn.length
                  have h2 := HM00.out
                  have h3 := HMs.out
                  rw [h1, h2]
                  omega
            · have hd : decide ((n2 : Int) < (kn.length : Int)) = true := by rw [decide_eq_true_iff]; omega
              have hni : (n2 : Int) < (kn.length : Int) := by omega
              have hee : (q.af == (M : Int)) = false := by simpa using hne
              obtain ⟨kb, ko, rfl, hkb, hkc⟩ := HKr.out (by omega)
              have f0' : wr.cell? ⟨kb, ko + n2 * 3, none⟩ = some (.int .i64 q.af) := hkc n2 _ hq 0 _ rfl
              clear hkc hq hne
              go_upto_region 8 with fail
              go_quiet (fail)
              go_wp2_with fail
              refine (HSO.out _ (HS.out.later (below_drewN (Below.refl _ _) _))).mono ?_
              rintro e w5 ⟨rfl, hS5⟩
              cases st with
              | none =>
                have HS5 := hid (show SiS w2 w5 w.heap.size xs.length (.slice a2 xs.length c2) s from hS5)
                have hfin : R = s := by
                  rw [← HRun.out]
                  exact bld_end (HStp.out.trans HSt.out) _
                have HFin := hid hfin
                clear hS5 hfin
                go_wp2_with fail
                refine bodyPost_ret (v := .tuple #[.pointer (some ⟨w2.heap.size + 1, 0, none⟩), .int .i64 0]) (by simp [results, Tryz.results53, go_sem]) rfl ?_
                have hb9 := below_of HB0.out HB0.out.size (below_of HB2.out HB2.out.size HS5.out.below)
                obtain ⟨A9, c9, h5, ho⟩ := HS5.out.s5
                refine ⟨hb9, .inr ⟨HG.out, w2.heap.size + 1, A9, c9, rfl, ?_, ?_, ?_⟩⟩
                · rw [HRe.out, HFin.out]; exact HS5.out.s4
                · rw [HRe.out, HFin.out]; exact h5
                · rw [HRe.out, HFin.out]; exact own_low ho (by have := (below_of HB0.out HB0.out.size HB2.out).size; omega)
              | some t =>
                have HS5 := hid (show SiS w2 w5 w.heap.size xs.length (.slice a2 xs.length c2) t from hS5)
                obtain ⟨i, hin, hfi, hUi, ht⟩ := set_some (n := xs.length) HO.out HSt.out
                have hms := mu_set (n := xs.length) (K := kn.length) (s := s) (i := i) hin hUi
                rw [← ht] at hms
                have htl : t.lost.length = n2 := by rw [ht]; exact HN2.out
                have hts : t.sets = s.sets + 1 := by rw [ht]
                have HMs := hid hms
                have HTl := hid htl
                have HTs := hid hts
                clear hS5 hms htl hts ht hfi hUi hin
                go_wp2_with fail
                refine ⟨⟨t, f - 1, by have := HMs.out; have := HMu.out; omega, ?_, by have := HMs.out; have := HSets.out; have := HTs.out; omega, by have := HTl.out; omega, HS5.out⟩, ?_⟩
                · have h1 := HRun.out
                  rw [show f = f - 1 + 1 by have := HMu.out; omega, bld_go (HStp.out.trans HSt.out)] at h1
                  exact h1
                · have h1 := SiS.m HS5.out kn.length
                  have h2 := HM00.out
                  have h3 := HMs.out
                  rw [h1, h2]
                  omega
  · rw [if_neg hv0] at hG
    have HG := hid hG
    have hne : (v != 0) = true := by simpa using hv0
    have HV := hid hv0
    clear hG hv0 hz
    go_enter Tryz.func53, Tryz.ntmps53
    go_upto_region 1 with fail
    rw [← hW0]
    clear hW0
    go_wp2_with fail
    refine HAs.out.mono ?_
    rintro e w1 ⟨rfl, hb1⟩
    have HB1 := hid (below_of HB0.out HB0.out.size hb1)
    clear hb1
    go_wp2_with fail
    refine bodyPost_ret (v := .tuple #[.pointer none, .int .i64 v]) (by simp [results, Tryz.results53, go_sem]) rfl ?_
    exact ⟨HB1.out, .inl ⟨by rw [HG.out]; exact HV.out, by rw [HG.out]⟩⟩
set_option maxHeartbeats 1000000 in
theorem SetUp_I (w : World) (wi hi : Int) (wl : -128 ≤ wi) (wu : wi ≤ 127) (hl : -128 ≤ hi) (hu : hi ≤ 127) (a : Option Addr) (c : Nat) (xs : List Pc) (h : SlA Pc.enc 5 w a xs) (hac : a = none → c = 0) (ok : ∀ p ∈ xs, p.Ok) (hs : xs.length ≤ 1048576) (a2 : Option Addr) (c2 : Nat) (gs : List Int) (h2 : SlA en1 1 w a2 gs) (hac2 : a2 = none → c2 = 0) (hcap : gs.length ≤ c2) (hc63 : c2 ≤ 9223372036854775807) (ok2 : ∀ p ∈ gs, -9223372036854775808 ≤ p ∧ p ≤ 9223372036854775807) (hs2 : gs.length ≤ 1048576)
    (a3 : Option Addr) (c3 : Nat) (kn : List Kn) (h3 : SlA Kn.enc 3 w a3 kn) (hac3 : a3 = none → c3 = 0) (hcap3 : kn.length ≤ c3) (hc633 : c3 ≤ 9223372036854775807) (ok3 : ∀ p ∈ kn, p.Ok) (hs3 : kn.length ≤ 1048576) :
    Calls Tryz.prog 25 #[.agg #[.int .i8 wi, .int .i8 hi, .slice a xs.length c], .slice a2 gs.length c2, .slice a3 kn.length c3] w (fun e w' => e = .returned (.tuple #[.int .i64 (SetUpG wi hi xs gs kn).1, .int .i64 (SetUpG wi hi xs gs kn).2.1, .int .i64 (SetUpG wi hi xs gs kn).2.2]) ∧ Below w.heap.size w w') := by
  obtain ⟨W0, hW0⟩ : ∃ W, W = w.alloc (.cells #[.int .i8 wi, .int .i8 hi, .slice a xs.length c] 32) := ⟨_, rfl⟩
  have B0 : Below w.heap.size w W0 := by rw [hW0]; exact (Below.refl _ _).alloc (Nat.le_refl _) _
  have hbd : BdA W0 w.heap.size wi hi a xs.length c := by rw [hW0]; exact bd_box _ _ _ _ _ _ _
  have d0 : W0.cell? ⟨w.heap.size, 0, none⟩ = some (.int .i8 wi) := hbd.c0
  have d1 : W0.cell? ⟨w.heap.size, 1, none⟩ = some (.int .i8 hi) := hbd.c1
  have d2 : W0.cell? ⟨w.heap.size, 2, none⟩ = some (.slice a xs.length c) := hbd.c2
  have HBt := hid (built_I W0 wi hi wl wu hl hu a c xs (h.below B0) ok hs a2 c2 gs (h2.below B0) hs2 a3 c3 kn (h3.below B0) ok3 hs3)
  have HB0 := hid B0
  have hG : SetUpG wi hi xs gs kn = if KnockedG wi hi xs gs kn = 0 then (((siteR xs gs kn).sets : Int), ((siteR xs gs kn).lost.length : Int), 0) else (0, 0, KnockedG wi hi xs gs kn) := rfl
  have HG := hid hG
  clear hbd h h2 h3 B0 hG
  go_enter Tryz.func25, Tryz.ntmps25
  go_upto_region 1 with fail
  rw [← hW0]
  clear hW0
  go_wp2_with fail
  refine HBt.out.mono ?_
  rintro e w1 ⟨hb1, ⟨hne, rfl⟩ | ⟨h0, sb, A, cA, rfl, k4, k5, own⟩⟩
  · have HB1 := hid (below_of HB0.out HB0.out.size hb1)
    have HG2 := hid (HG.out.trans (if_neg hne))
    obtain ⟨v, hv⟩ : ∃ v, KnockedG wi hi xs gs kn = v := ⟨_, rfl⟩
    rw [hv] at HG2 hne ⊢
    have hne2 : (v != 0) = true := by simpa using hne
    clear hb1 hv d0 d1 d2 hne
    go_wp2_with fail
    refine bodyPost_ret (v := .tuple #[.int .i64 0, .int .i64 0, .int .i64 v]) (by simp [results, Tryz.results25, go_sem]) rfl ?_
    rw [HG2.out]
    exact ⟨rfl, HB1.out⟩
  · have HB1 := hid (below_of HB0.out HB0.out.size hb1)
    have HG2 := hid (HG.out.trans (if_pos h0))
    obtain ⟨R, hR⟩ : ∃ R, siteR xs gs kn = R := ⟨_, rfl⟩
    rw [hR] at HG2 k4 k5
    obtain ⟨L, hL⟩ : ∃ L, R.lost.length = L := ⟨_, rfl⟩
    rw [hL] at HG2 k5
    obtain ⟨S0, hS0⟩ : ∃ n, R.sets = n := ⟨_, rfl⟩
    rw [hS0] at HG2 k4
    clear hb1 hR hL hS0 d0 d1 d2 own h0
    go_wp2_with fail
    go_region
    go_wp2_with fail
    refine bodyPost_ret (v := .tuple #[.int .i64 (S0 : Nat), .int .i64 (L : Nat), .int .i64 0]) (by simp [results, Tryz.results25, go_sem]) rfl ?_
    rw [HG2.out]
    exact ⟨rfl, HB1.out.drew⟩
set_option maxHeartbeats 1000000 in
theorem LostBy_I (w : World) (wi hi : Int) (wl : -128 ≤ wi) (wu : wi ≤ 127) (hl : -128 ≤ hi) (hu : hi ≤ 127) (a : Option Addr) (c : Nat) (xs : List Pc) (h : SlA Pc.enc 5 w a xs) (hac : a = none → c = 0) (ok : ∀ p ∈ xs, p.Ok) (hs : xs.length ≤ 1048576) (a2 : Option Addr) (c2 : Nat) (gs : List Int) (h2 : SlA en1 1 w a2 gs) (hac2 : a2 = none → c2 = 0) (hcap : gs.length ≤ c2) (hc63 : c2 ≤ 9223372036854775807) (ok2 : ∀ p ∈ gs, -9223372036854775808 ≤ p ∧ p ≤ 9223372036854775807) (hs2 : gs.length ≤ 1048576)
    (a3 : Option Addr) (c3 : Nat) (kn : List Kn) (h3 : SlA Kn.enc 3 w a3 kn) (hac3 : a3 = none → c3 = 0) (hcap3 : kn.length ≤ c3) (hc633 : c3 ≤ 9223372036854775807) (ok3 : ∀ p ∈ kn, p.Ok) (hs3 : kn.length ≤ 1048576) :
    Calls Tryz.prog 28 #[.agg #[.int .i8 wi, .int .i8 hi, .slice a xs.length c], .slice a2 gs.length c2, .slice a3 kn.length c3] w (ResS en1 1 2 w (LostByG wi hi xs gs kn).1 (LostByG wi hi xs gs kn).2) := by
  obtain ⟨W0, hW0⟩ : ∃ W, W = w.alloc (.cells #[.int .i8 wi, .int .i8 hi, .slice a xs.length c] 32) := ⟨_, rfl⟩
  have B0 : Below w.heap.size w W0 := by rw [hW0]; exact (Below.refl _ _).alloc (Nat.le_refl _) _
  have hbd : BdA W0 w.heap.size wi hi a xs.length c := by rw [hW0]; exact bd_box _ _ _ _ _ _ _
  have d0 : W0.cell? ⟨w.heap.size, 0, none⟩ = some (.int .i8 wi) := hbd.c0
  have d1 : W0.cell? ⟨w.heap.size, 1, none⟩ = some (.int .i8 hi) := hbd.c1
  have d2 : W0.cell? ⟨w.heap.size, 2, none⟩ = some (.slice a xs.length c) := hbd.c2
  have HBt := hid (built_I W0 wi hi wl wu hl hu a c xs (h.below B0) ok hs a2 c2 gs (h2.below B0) hs2 a3 c3 kn (h3.below B0) ok3 hs3)
  have HB0 := hid B0
  have hG : LostByG wi hi xs gs kn = if KnockedG wi hi xs gs kn = 0 then ((siteR xs gs kn).lost, 0) else ([], KnockedG wi hi xs gs kn) := rfl
  have HG := hid hG
  clear hbd h h2 h3 B0 hG
  go_enter Tryz.func28, Tryz.ntmps28
  go_upto_region 1 with fail
  rw [← hW0]
  clear hW0
  go_wp2_with fail
  refine HBt.out.mono ?_
  rintro e w1 ⟨hb1, ⟨hne, rfl⟩ | ⟨h0, sb, A, cA, rfl, k4, k5, own⟩⟩
  · have HB1 := hid (below_of HB0.out HB0.out.size hb1)
    have HG2 := hid (HG.out.trans (if_neg hne))
    obtain ⟨v, hv⟩ : ∃ v, KnockedG wi hi xs gs kn = v := ⟨_, rfl⟩
    rw [hv] at HG2 hne ⊢
    have hne2 : (v != 0) = true := by simpa using hne
    clear hb1 hv d0 d1 d2 hne
    go_wp2_with fail
    refine bodyPost_ret (v := .tuple #[.slice none 0 0, .int .i64 v]) (by simp [results, Tryz.results28, go_sem]) rfl ?_
    rw [HG2.out]
    exact ⟨none, 0, rfl, HB1.out, World.ownsRow_nil _ _ _ _⟩
  · have HB1 := hid (below_of HB0.out HB0.out.size hb1)
    have HG2 := hid (HG.out.trans (if_pos h0))
    obtain ⟨R, hR⟩ : ∃ R, siteR xs gs kn = R := ⟨_, rfl⟩
    rw [hR] at HG2 k4 k5 own
    have HO := hid own
    obtain ⟨L, hL⟩ : ∃ L, R.lost.length = L := ⟨_, rfl⟩
    rw [hL] at k5
    have HL := hid hL
    clear hb1 hR hL d0 d1 d2 own h0
    go_wp2_with fail
    refine bodyPost_ret (v := .tuple #[.slice A L cA, .int .i64 0]) (by simp [results, Tryz.results28, go_sem]) rfl ?_
    rw [HG2.out]
    refine ⟨A, cA, by rw [HL.out], HB1.out, own_low HO.out HB0.out.size⟩
end Go.Proofs.YtebefcfalnkdmaaGreat
