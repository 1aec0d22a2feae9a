/-
  A right board as a system that falls.
  Plain law of accidents: how many fall at one push, the worst side, the worst piece.
  Plain law: boards of the same pieces in other orders fall alike; parts of a right board are right.
  Conditions: the pieces are right, no two of them in one cell. none. none; plain law.
-/
import Derived.Test.YthhfndifcdiomaaGreatFallLaw
import Derived.Test.YthhfndifcdiomaaGreatWin
namespace Go.Proofs.YthhfndifcdiomaaGreat
open Go.RowKit
set_option linter.unusedSimpArgs false
set_option linter.unusedVariables false

def boOf (xs : List Pc) : Bo := ⟨xs.length, (netOf xs [] []).can, (netOf xs [] []).hit, (netOf xs [] []).near, fun i => match xs[i]? with | some p => p.d.toNat | none => 1⟩
/-- A right board. -/
structure BrdOk (xs : List Pc) : Prop where
  n : xs.length ≤ 200
  pc : ∀ p ∈ xs, (0 ≤ p.x ∧ p.x ≤ 23) ∧ (0 ≤ p.y ∧ p.y ≤ 23) ∧ (0 ≤ p.k ∧ p.k ≤ 5) ∧ (0 ≤ p.t ∧ p.t ≤ 3) ∧ (1 ≤ p.d ∧ p.d ≤ 9)
  one : ∀ (i j : Nat) p q, xs[i]? = some p → xs[j]? = some q → p.x = q.x → p.y = q.y → i = j
theorem place_of {xs : List Pc} (h1 : ∀ (i j : Nat) p q, xs[i]? = some p → xs[j]? = some q → p.x = q.x → p.y = q.y → i = j) {i : Nat} {p : Pc} (h : xs[i]? = some p) : idxOf (atC p.x p.y) xs = i := by
  refine idxOf_at ?_ h (by simp [atC])
  rw [List.any_eq_false]
  intro q hq hat
  obtain ⟨j, hj, e⟩ := List.mem_take_iff_getElem.1 hq
  have hj2 : xs[j]? = some q := by rw [List.getElem?_eq_getElem (by omega), e]
  unfold atC at hat
  simp only [decide_eq_true_eq] at hat
  have := h1 j i q p hj2 h hat.1 hat.2
  omega
theorem bo_near {xs : List Pc} {i s : Nat} : (boOf xs).near i s = if nearI xs i s < 0 then none else some (nearI xs i s).toNat := rfl
theorem bo_near_cases (xs : List Pc) (i s : Nat) : (∃ k : Nat, nearI xs i s = k ∧ (boOf xs).near i s = some k ∧ k < xs.length) ∨ (nearI xs i s < 0 ∧ (boOf xs).near i s = none) := by
  by_cases h : 0 ≤ nearI xs i s
  · obtain ⟨k, e, hk⟩ := near_nat h
    refine .inl ⟨k, e, ?_, hk⟩
    rw [bo_near, e, if_neg (by omega), Int.toNat_natCast]
  · refine .inr ⟨by omega, ?_⟩
    rw [bo_near, if_pos (by omega)]
theorem bo_ok {xs : List Pc} (h : BrdOk xs) : (boOf xs).Ok := by
  refine ⟨fun i s q hi hs hn => ?_, fun i => ?_⟩
  · have hi' : i < xs.length := hi
    have e1 : xs[i]? = some xs[i] := List.getElem?_eq_getElem hi'
    rcases bo_near_cases xs i s with ⟨k, ek, nk, hk⟩ | ⟨_, nk⟩
    · rw [hn] at nk
      injection nk with nk
      subst nk
      refine ⟨hk, ?_⟩
      have hu : nearI xs i s = idxOf (atC (nx xs[i].x s) (ny xs[i].y s)) xs := by unfold nearI; rw [e1]
      have hany : xs.any (atC (nx xs[i].x s) (ny xs[i].y s)) = true := by
        have := idxOf_ge (atC (nx xs[i].x s) (ny xs[i].y s)) xs
        rw [← this, decide_eq_true_iff, ← hu, ek]
        omega
      obtain ⟨k, x, h1, h2, h3, _⟩ := idxOf_some hany
      have hk2 : k = q := by rw [hu, h1] at ek; omega
      subst hk2
      unfold atC at h3
      simp only [decide_eq_true_eq] at h3
      have hb : nearI xs k (opp s) = (i : Int) := by
        unfold nearI
        rw [h2]
        dsimp only
        rw [h3.1, h3.2, nx_opp _ hs, ny_opp _ hs]
        exact place_of h.one e1
      rw [bo_near, hb, if_neg (by omega), Int.toNat_natCast]
    · rw [hn] at nk
      cases nk
  · show 1 ≤ (match xs[i]? with | some p => p.d.toNat | none => 1) ∧ (match xs[i]? with | some p => p.d.toNat | none => 1) ≤ 9
    cases e : xs[i]? with
    | none => simp
    | some p =>
      have := (h.pc p (List.mem_of_getElem? e)).2.2.2.2
      show 1 ≤ p.d.toNat ∧ p.d.toNat ≤ 9
      omega
theorem bo_can {xs : List Pc} {i : Nat} {p : Pc} (h : xs[i]? = some p) (s : Nat) : (boOf xs).can i s = decide (0 ≤ hitsG p.k p.t s) := by
  show (match xs[i]? with | some p => decide (0 ≤ hitsG p.k p.t s) | none => false) = _
  rw [h]
theorem bo_hit {xs : List Pc} {i : Nat} {p : Pc} (h : xs[i]? = some p) (f t : Nat) : (boOf xs).hit i f t = (decide (0 ≤ hitsG p.k p.t f) && bitI (hitsG p.k p.t f) t) := by
  show (match xs[i]? with | some p => decide (0 ≤ hitsG p.k p.t f) && bitI (hitsG p.k p.t f) t | none => false) = _
  rw [h]
theorem bo_d {xs : List Pc} {i : Nat} {p : Pc} (h : xs[i]? = some p) : (boOf xs).d i = p.d.toNat := by
  show (match xs[i]? with | some p => p.d.toNat | none => 1) = _
  rw [h]
/-! ### The falls in memory -/
def keyT (v : Nat) : Int := if v < big then ((v / 4 : Nat) : Int) else -1
def keyS (v : Nat) : Int := if v < big then ((v % 4 : Nat) : Int) else 0
theorem keyT_lt {v : Nat} (h : v < big) : keyT v = ((v / 4 : Nat) : Int) := if_pos h
theorem keyS_lt {v : Nat} (h : v < big) : keyS v = ((v % 4 : Nat) : Int) := if_pos h
theorem keyT_big : keyT big = -1 := if_neg (Nat.lt_irrefl _)
theorem keyS_big : keyS big = 0 := if_neg (Nat.lt_irrefl _)
/-- A row of falls: their ticks and sides; by what is not told. -/
structure FaA (w : World) (g n : Nat) (E : Nat → Nat) : Prop where
  lt : g < w.heap.size
  c0 : ∀ i, i < n → w.cell? ⟨g, i * 3, none⟩ = some (.int .i64 (keyT (E i)))
  c1 : ∀ i, i < n → w.cell? ⟨g, i * 3 + 1, none⟩ = some (.int .i8 (keyS (E i)))
  c2 : ∀ i, i < n → ∃ b : Int, w.cell? ⟨g, i * 3 + 2, none⟩ = some (.int .i64 b)
theorem FaA.below {w w1 : World} {g n B : Nat} {E : Nat → Nat} (h : FaA w g n E) (hb : Below B w w1) (hB : g < B) : FaA w1 g n E :=
  ⟨Nat.lt_of_lt_of_le h.lt hb.size, fun i hi => (hb.cell (p := ⟨g, _, none⟩) hB).trans (h.c0 i hi), fun i hi => (hb.cell (p := ⟨g, _, none⟩) hB).trans (h.c1 i hi), fun i hi => by obtain ⟨b, e⟩ := h.c2 i hi; exact ⟨b, (hb.cell (p := ⟨g, _, none⟩) hB).trans e⟩⟩
theorem FaA.kept {w w1 : World} {g n : Nat} {E : Nat → Nat} {r : Option Nat} (h : FaA w g n E) (hg : w.grownBy w1 r) (hne : some g ≠ r) : FaA w1 g n E :=
  ⟨Nat.lt_of_lt_of_le h.lt hg.size, fun i hi => (hg.cell_far ⟨g, _, none⟩ h.lt hne).trans (h.c0 i hi), fun i hi => (hg.cell_far ⟨g, _, none⟩ h.lt hne).trans (h.c1 i hi), fun i hi => by obtain ⟨b, e⟩ := h.c2 i hi; exact ⟨b, (hg.cell_far ⟨g, _, none⟩ h.lt hne).trans e⟩⟩
theorem FaA.congr {w : World} {g n : Nat} {E E' : Nat → Nat} (h : FaA w g n E) (e : ∀ y, y < n → E y = E' y) : FaA w g n E' :=
  ⟨h.lt, fun i hi => by rw [← e i hi]; exact h.c0 i hi, fun i hi => by rw [← e i hi]; exact h.c1 i hi, h.c2⟩
/-- One fall is stored, its three cells. -/
theorem FaA.set {w : World} {g n : Nat} {E : Nat → Nat} (h : FaA w g n E) {i : Nat} (hi : i < n) (v : Nat) (b : Int) :
    FaA (((w.setCell ⟨g, i * 3, none⟩ (.int .i64 (keyT v))).setCell ⟨g, i * 3 + 1, none⟩ (.int .i8 (keyS v))).setCell ⟨g, i * 3 + 2, none⟩ (.int .i64 b)) g n (upd E i v) := by
  have hk : ∀ (j o : Nat), j < n → o < 3 → j ≠ i → (((w.setCell ⟨g, i * 3, none⟩ (.int .i64 (keyT v))).setCell ⟨g, i * 3 + 1, none⟩ (.int .i8 (keyS v))).setCell ⟨g, i * 3 + 2, none⟩ (.int .i64 b)).cell? ⟨g, j * 3 + o, none⟩ = w.cell? ⟨g, j * 3 + o, none⟩ := by
    intro j o hj ho hne
    rw [World.cell?_setCell_other _ _ _ _ (by intro x; simp only [Addr.mk.injEq] at x; omega), World.cell?_setCell_other _ _ _ _ (by intro x; simp only [Addr.mk.injEq] at x; omega), World.cell?_setCell_other _ _ _ _ (by intro x; simp only [Addr.mk.injEq] at x; omega)]
  obtain ⟨b0, hb0⟩ := h.c2 i hi
  have a0 := h.c0 i hi
  have a1 := h.c1 i hi
  have b1 : (w.setCell ⟨g, i * 3, none⟩ (.int .i64 (keyT v))).cell? ⟨g, i * 3 + 1, none⟩ = some (.int .i8 (keyS (E i))) := (World.cell?_setCell_other _ _ _ _ (by intro x; simp only [Addr.mk.injEq] at x; omega)).trans a1
  have b2 : ((w.setCell ⟨g, i * 3, none⟩ (.int .i64 (keyT v))).setCell ⟨g, i * 3 + 1, none⟩ (.int .i8 (keyS v))).cell? ⟨g, i * 3 + 2, none⟩ = some (.int .i64 b0) :=
    (World.cell?_setCell_other _ _ _ _ (by intro x; simp only [Addr.mk.injEq] at x; omega)).trans ((World.cell?_setCell_other _ _ _ _ (by intro x; simp only [Addr.mk.injEq] at x; omega)).trans hb0)
  refine ⟨by simpa using h.lt, fun j hj => ?_, fun j hj => ?_, fun j hj => ?_⟩
  · by_cases e : j = i
    · subst e
      rw [upd_at, World.cell?_setCell_other _ _ _ _ (by intro x; simp only [Addr.mk.injEq] at x; omega), World.cell?_setCell_other _ _ _ _ (by intro x; simp only [Addr.mk.injEq] at x; omega), World.cell?_setCell_same _ _ _ a0]
    · rw [upd_ne _ _ e]
      exact (show _ = w.cell? ⟨g, j * 3, none⟩ from hk j 0 hj (by omega) e).trans (h.c0 j hj)
  · by_cases e : j = i
    · subst e
      rw [upd_at, World.cell?_setCell_other _ _ _ _ (by intro x; simp only [Addr.mk.injEq] at x; omega), World.cell?_setCell_same _ _ _ b1]
    · rw [upd_ne _ _ e, hk j 1 hj (by omega) e]
      exact h.c1 j hj
  · by_cases e : j = i
    · subst e
      exact ⟨b, World.cell?_setCell_same _ _ _ b2⟩
    · rw [hk j 2 hj (by omega) e]
      exact h.c2 j hj
theorem cntF_all (E : Nat → Nat) (h : ∀ y, E y = big) : ∀ k, cntF E k = 0
  | 0 => rfl
  | k + 1 => by unfold cntF; rw [cntF_all E h k, h k, if_neg (Nat.lt_irrefl _)]
/-- A push from a side from which the piece cannot fall: none falls. -/
theorem cnt_cannot {B : Bo} (ok : B.Ok) {p sd : Nat} (hs : sd < 4) (hc : B.can p sd = false) : cntOf B p sd = 0 := by
  have hfix : ∀ y, (fun _ => big : Nat → Nat) y = fallF B (one1 p sd) (fun _ => big) y := by
    intro y
    show big = fallF B (one1 p sd) (fun _ => big) y
    unfold fallF
    split
    · have hk : ∀ s, hitK B (one1 p sd) (fun _ => big) y s = big := by
        intro s
        unfold hitK
        split
        · rename_i h1
          have : one1 p sd y s = big := by
            unfold one1
            rw [if_neg]
            rintro ⟨rfl, rfl⟩
            rw [hc] at h1
            cases h1
          rw [this]
          cases B.near y s with
          | none => exact Nat.min_self _
          | some q =>
            dsimp only
            rw [gK_big]
            exact Nat.min_self _
        · rfl
      unfold best4
      rw [hk, hk, hk, hk]
      simp
    · rfl
  have h := (fall_tk ok (one1_le hs)).is_fix hfix
  exact cntF_all _ (fun y => (h y).symm) _
theorem cntOf_le (B : Bo) (p sd : Nat) : cntOf B p sd ≤ B.n := cntF_le _ _
/-- The worst side of a piece so far: the side, and what it costs. -/
def sideW (xs : List Pc) (i : Nat) : Nat → Int × Int
  | 0 => (0, -1)
  | s + 1 => if (sideW xs i s).2 < (cntOf (boOf xs) i s : Int) then ((s : Int), (cntOf (boOf xs) i s : Int)) else sideW xs i s
theorem sideW_in (xs : List Pc) (i : Nat) : ∀ s, -1 ≤ (sideW xs i s).2 ∧ (sideW xs i s).2 ≤ xs.length ∧ 0 ≤ (sideW xs i s).1 ∧ (sideW xs i s).1 ≤ s ∧ (0 < s → 0 ≤ (sideW xs i s).2 ∧ (sideW xs i s).1 < s)
  | 0 => by simp [sideW]
  | s + 1 => by
    have ih := sideW_in xs i s
    have hc : cntOf (boOf xs) i s ≤ xs.length := cntOf_le _ _ _
    unfold sideW
    split
    · dsimp only; omega
    · rename_i h
      omega
def worstA (xs : List Pc) (i : Nat) : Int × Int := sideW xs i 4
theorem worstA_in (xs : List Pc) (i : Nat) : 0 ≤ (worstA xs i).2 ∧ (worstA xs i).2 ≤ xs.length ∧ 0 ≤ (worstA xs i).1 ∧ (worstA xs i).1 ≤ 3 := by
  have := sideW_in xs i 4
  unfold worstA
  omega
/-- The worst piece so far: piece, side, cost. -/
def pieceW (xs : List Pc) : Nat → Int × Int × Int
  | 0 => (-1, 0, 0)
  | i + 1 => if (pieceW xs i).1 < 0 ∨ (pieceW xs i).2.2 < (worstA xs i).2 then ((i : Int), (worstA xs i).1, (worstA xs i).2) else pieceW xs i
theorem pieceW_in (xs : List Pc) : ∀ k, -1 ≤ (pieceW xs k).1 ∧ (pieceW xs k).1 < k ∧ 0 ≤ (pieceW xs k).2.1 ∧ (pieceW xs k).2.1 ≤ 3 ∧ 0 ≤ (pieceW xs k).2.2 ∧ (pieceW xs k).2.2 ≤ xs.length ∧ (0 < k → 0 ≤ (pieceW xs k).1)
  | 0 => by simp [pieceW]
  | k + 1 => by
    have ih := pieceW_in xs k
    have hw := worstA_in xs k
    unfold pieceW
    split
    · dsimp only; omega
    · rename_i h
      omega
def worstG (xs : List Pc) : Int × Int × Int := pieceW xs xs.length
/-- The cost alone. -/
def costW (xs : List Pc) : Int := (worstG xs).2.2
/-- As the reference finds the cost: the greatest, from 0 on. -/
def maxW (xs : List Pc) : Nat → Int
  | 0 => 0
  | i + 1 => max (maxW xs i) (worstA xs i).2
theorem maxW_eq (xs : List Pc) : ∀ k, maxW xs k = (pieceW xs k).2.2
  | 0 => rfl
  | k + 1 => by
    have ih := maxW_eq xs k
    have h1 := pieceW_in xs k
    have hw := worstA_in xs k
    unfold maxW pieceW
    rw [ih]
    split
    · rename_i h
      rcases h with h | h
      · have : k = 0 := by
          rcases Nat.eq_zero_or_pos k with h2 | h2
          · exact h2
          · have := h1.2.2.2.2.2.2 h2
            omega
        subst this
        simp [pieceW]
        omega
      · dsimp only; omega
    · rename_i h
      omega
theorem costW_eq (xs : List Pc) : costW xs = maxW xs xs.length := (maxW_eq xs _).symm
/-- As the reference finds the worst accident: from piece 0, side 0 and cost -1 on. -/
def pieceR (xs : List Pc) : Nat → Int × Int × Int
  | 0 => (0, 0, -1)
  | i + 1 => if (pieceR xs i).2.2 < (worstA xs i).2 then ((i : Int), (worstA xs i).1, (worstA xs i).2) else pieceR xs i
theorem pieceR_eq (xs : List Pc) : ∀ k, 0 < k → pieceR xs k = pieceW xs k
  | 1, _ => by
    have hw := worstA_in xs 0
    unfold pieceR pieceW
    rw [if_pos (by show (-1 : Int) < _; omega), if_pos (.inl (by show (-1 : Int) < 0; omega))]
  | k + 2, _ => by
    have ih := pieceR_eq xs (k + 1) (by omega)
    have h1 := pieceW_in xs (k + 1)
    rw [pieceR, pieceW, ih]
    by_cases h : (pieceW xs (k + 1)).2.2 < (worstA xs (k + 1)).2
    · rw [if_pos h, if_pos (.inr h)]
    · rw [if_neg h, if_neg]
      rintro (h2 | h2)
      · have := h1.2.2.2.2.2.2 (by omega); omega
      · exact h h2
def apartP (p q : Pc) : Prop := ¬ (p.x = q.x ∧ p.y = q.y)
theorem brd_pw {xs : List Pc} (h : BrdOk xs) : xs.Pairwise apartP := by
  rw [List.pairwise_iff_getElem]
  intro i j hi hj hij he
  have := h.one i j _ _ (List.getElem?_eq_getElem hi) (List.getElem?_eq_getElem hj) he.1 he.2
  omega
theorem brd_of_pw {xs : List Pc} (hn : xs.length ≤ 200) (hp : ∀ p ∈ xs, (0 ≤ p.x ∧ p.x ≤ 23) ∧ (0 ≤ p.y ∧ p.y ≤ 23) ∧ (0 ≤ p.k ∧ p.k ≤ 5) ∧ (0 ≤ p.t ∧ p.t ≤ 3) ∧ (1 ≤ p.d ∧ p.d ≤ 9)) (h : xs.Pairwise apartP) : BrdOk xs := by
  rw [List.pairwise_iff_getElem] at h
  refine ⟨hn, hp, fun i j p q hi hj hx hy => ?_⟩
  obtain ⟨hi1, rfl⟩ := List.getElem?_eq_some_iff.1 hi
  obtain ⟨hj1, rfl⟩ := List.getElem?_eq_some_iff.1 hj
  rcases Nat.lt_trichotomy i j with h1 | h1 | h1
  · exact absurd ⟨hx, hy⟩ (h i j hi1 hj1 h1)
  · exact h1
  · exact absurd ⟨hx.symm, hy.symm⟩ (h j i hj1 hi1 h1)
theorem BrdOk.part {xs ys : List Pc} (h : BrdOk xs) (s : ys.Sublist xs) : BrdOk ys :=
  brd_of_pw (Nat.le_trans s.length_le h.n) (fun p hp => h.pc p (s.subset hp)) ((brd_pw h).sublist s)
theorem apart_symm {p q : Pc} (h : apartP p q) : apartP q p := fun e => h ⟨e.1.symm, e.2.symm⟩
theorem BrdOk.perm {xs ys : List Pc} (h : BrdOk xs) (s : ys.Perm xs) : BrdOk ys :=
  brd_of_pw (by rw [s.length_eq]; exact h.n) (fun p hp => h.pc p (s.mem_iff.1 hp)) (s.symm.pairwise (brd_pw h) apart_symm)
/-- Where the pieces of one board lie in the other. -/
structure Tau (xs ys : List Pc) (f : Nat → Nat) : Prop where
  lt : ∀ j, j < ys.length → f j < xs.length
  at_ : ∀ j, j < ys.length → xs[f j]? = ys[j]?
def tau (xs ys : List Pc) (j : Nat) : Nat := match ys[j]? with | some p => (idxOf (atC p.x p.y) xs).toNat | none => j
theorem tau_ok {xs ys : List Pc} (h : BrdOk xs) (s : ys.Perm xs) : Tau xs ys (tau xs ys) := by
  have key : ∀ j, j < ys.length → tau xs ys j < xs.length ∧ xs[tau xs ys j]? = ys[j]? := by
    intro j hj
    have e1 : ys[j]? = some ys[j] := List.getElem?_eq_getElem hj
    obtain ⟨i, hi⟩ := List.mem_iff_getElem?.1 (s.mem_iff.1 (List.getElem_mem hj))
    have : tau xs ys j = i := by
      unfold tau
      rw [e1]
      dsimp only
      rw [place_of h.one hi, Int.toNat_natCast]
    rw [this, hi, e1]
    exact ⟨(List.getElem?_eq_some_iff.1 hi).1, rfl⟩
  exact ⟨fun j hj => (key j hj).1, fun j hj => (key j hj).2⟩
theorem Tau.inj {xs ys : List Pc} {f : Nat → Nat} (h : Tau xs ys f) (hy : BrdOk ys) {i j : Nat} (hi : i < ys.length) (hj : j < ys.length) (e : f i = f j) : i = j := by
  have h1 := h.at_ i hi
  have h2 := h.at_ j hj
  rw [e, h2] at h1
  rw [List.getElem?_eq_getElem hi, List.getElem?_eq_getElem hj] at h1
  injection h1 with h1
  exact hy.one i j _ _ (List.getElem?_eq_getElem hi) (List.getElem?_eq_getElem hj) (by rw [h1]) (by rw [h1])
theorem Tau.near {xs ys : List Pc} {f : Nat → Nat} (h : Tau xs ys f) (hx : BrdOk xs) (s : ys.Perm xs) {j : Nat} (hj : j < ys.length) (sd : Nat) : (boOf xs).near (f j) sd = ((boOf ys).near j sd).map f ∧ ∀ k, (boOf ys).near j sd = some k → k < ys.length := by
  have hy := hx.perm s
  have e1 : ys[j]? = some ys[j] := List.getElem?_eq_getElem hj
  have e2 : xs[f j]? = some ys[j] := (h.at_ j hj).trans e1
  have n1 : nearI ys j sd = idxOf (atC (nx ys[j].x sd) (ny ys[j].y sd)) ys := by unfold nearI; rw [e1]
  have n2 : nearI xs (f j) sd = idxOf (atC (nx ys[j].x sd) (ny ys[j].y sd)) xs := by unfold nearI; rw [e2]
  have hany : ys.any (atC (nx ys[j].x sd) (ny ys[j].y sd)) = xs.any (atC (nx ys[j].x sd) (ny ys[j].y sd)) := by
    rw [Bool.eq_iff_iff, List.any_eq_true, List.any_eq_true]
    constructor
    · rintro ⟨p, hp, h1⟩; exact ⟨p, s.mem_iff.1 hp, h1⟩
    · rintro ⟨p, hp, h1⟩; exact ⟨p, s.mem_iff.2 hp, h1⟩
  cases ha : ys.any (atC (nx ys[j].x sd) (ny ys[j].y sd)) with
  | true =>
    obtain ⟨k, p, h1, h2, h3, _⟩ := idxOf_some ha
    have hk := (List.getElem?_eq_some_iff.1 h2).1
    have h4 : (boOf ys).near j sd = some k := by rw [bo_near, n1, h1, if_neg (by omega), Int.toNat_natCast]
    have e3 : xs[f k]? = some p := (h.at_ k hk).trans h2
    unfold atC at h3
    simp only [decide_eq_true_eq] at h3
    have h5 : nearI xs (f j) sd = (f k : Int) := by rw [n2, ← h3.1, ← h3.2]; exact place_of hx.one e3
    rw [h4, bo_near, h5, if_neg (by omega), Int.toNat_natCast]
    exact ⟨rfl, fun k' e => by cases e; exact hk⟩
  | false =>
    rw [ha] at hany
    have h4 : (boOf ys).near j sd = none := by rw [bo_near, n1, idxOf_none ha]; rfl
    have h5 : nearI xs (f j) sd = -1 := by rw [n2]; exact idxOf_none hany.symm
    rw [h4, bo_near, h5]
    exact ⟨rfl, fun k' e => by cases e⟩
theorem Tau.piece {xs ys : List Pc} {f : Nat → Nat} (h : Tau xs ys f) {j : Nat} (hj : j < ys.length) : (∀ s, (boOf ys).can j s = (boOf xs).can (f j) s) ∧ (∀ s t, (boOf ys).hit j s t = (boOf xs).hit (f j) s t) ∧ (boOf ys).d j = (boOf xs).d (f j) := by
  have e1 : ys[j]? = some ys[j] := List.getElem?_eq_getElem hj
  have e2 : xs[f j]? = some ys[j] := (h.at_ j hj).trans e1
  exact ⟨fun s => by rw [bo_can e1, bo_can e2], fun s t => by rw [bo_hit e1, bo_hit e2], by rw [bo_d e1, bo_d e2]⟩
/-- Boards of the same pieces fall alike. -/
theorem fal_perm {xs ys : List Pc} (hx : BrdOk xs) (s : ys.Perm xs) {f : Nat → Nat} (h : Tau xs ys f) {p sd : Nat} (hp : p < ys.length) (hs : sd < 4) : ∀ j, j < ys.length → Fal (boOf ys) (one1 p sd) j = Fal (boOf xs) (one1 (f p) sd) (f j) := by
  have hy := hx.perm s
  have hfix := (fall_tk (bo_ok hx) (one1_le (p := f p) hs)).fix
  have hle := (fall_tk (bo_ok hx) (one1_le (p := f p) hs)).fix_le
  have hE : ∀ j, (fun j => if j < ys.length then Fal (boOf xs) (one1 (f p) sd) (f j) else big) j = fallF (boOf ys) (one1 p sd) (fun j => if j < ys.length then Fal (boOf xs) (one1 (f p) sd) (f j) else big) j := by
    intro j
    show (if j < ys.length then Fal (boOf xs) (one1 (f p) sd) (f j) else big) = _
    by_cases hj : j < ys.length
    · rw [if_pos hj]
      have hfj := h.lt j hj
      obtain ⟨hc, hh, hd⟩ := h.piece hj
      rw [show Fal (boOf xs) (one1 (f p) sd) (f j) = fallF (boOf xs) (one1 (f p) sd) (Fal (boOf xs) (one1 (f p) sd)) (f j) from hfix (f j)]
      unfold fallF
      rw [if_pos (show f j < (boOf xs).n from hfj), if_pos (show j < (boOf ys).n from hj)]
      congr 1
      funext k
      unfold hitK
      rw [hc k]
      obtain ⟨hn, hn2⟩ := h.near hx s hj k
      have ho : one1 (f p) sd (f j) k = one1 p sd j k := by
        unfold one1
        by_cases e : j = p ∧ k = sd
        · rw [if_pos e, if_pos ⟨by rw [e.1], e.2⟩]
        · rw [if_neg e, if_neg (fun e2 => e ⟨h.inj hy hj hp e2.1, e2.2⟩)]
      rw [ho, hn]
      cases hnb : (boOf ys).near j k with
      | none => rfl
      | some q =>
        have hq := hn2 q hnb
        obtain ⟨_, qh, qd⟩ := h.piece hq
        simp only [Option.map_some]
        unfold gK
        rw [if_pos hq, ← qd, ← qh]
    · rw [if_neg hj]
      unfold fallF
      rw [if_neg (show ¬ j < (boOf ys).n from hj)]
  intro j hj
  have := (fall_tk (bo_ok hy) (one1_le hs)).is_fix hE j
  show fixp _ j = _
  rw [← this]
  exact if_pos hj
/-- How many fall, as a count of pieces. -/
theorem cntF_count {xs : List Pc} (hx : BrdOk xs) (E : Nat → Nat) : cntF E xs.length = xs.countP (fun p => decide (E (idxOf (atC p.x p.y) xs).toNat < big)) := by
  have key : ∀ k, k ≤ xs.length → cntF E k = (xs.take k).countP (fun p => decide (E (idxOf (atC p.x p.y) xs).toNat < big)) := by
    intro k
    induction k with
    | zero => intro _; rfl
    | succ k ih =>
      intro hk
      have e1 : xs[k]? = some xs[k] := List.getElem?_eq_getElem (by omega)
      rw [List.take_add_one, e1, List.countP_append, ← ih (by omega)]
      rw [show cntF E (k + 1) = cntF E k + (if E k < big then 1 else 0) from rfl]
      simp only [Option.toList, List.countP_singleton, place_of hx.one e1, Int.toNat_natCast, decide_eq_true_eq]
  have := key xs.length (Nat.le_refl _)
  rwa [List.take_length] at this
theorem cnt_perm {xs ys : List Pc} (hx : BrdOk xs) (s : ys.Perm xs) {f : Nat → Nat} (h : Tau xs ys f) {p sd : Nat} (hp : p < ys.length) (hs : sd < 4) : cntOf (boOf ys) p sd = cntOf (boOf xs) (f p) sd := by
  have hy := hx.perm s
  show cntF _ ys.length = cntF _ xs.length
  rw [cntF_count hx, cntF_count hy, s.countP_eq]
  refine List.countP_congr fun q hq => ?_
  obtain ⟨j, hj⟩ := List.mem_iff_getElem?.1 (s.mem_iff.2 hq)
  have hjl := (List.getElem?_eq_some_iff.1 hj).1
  have e2 : xs[f j]? = some q := (h.at_ j hjl).trans hj
  rw [place_of hy.one hj, place_of hx.one e2, Int.toNat_natCast, Int.toNat_natCast, fal_perm hx s h hp hs j hjl]
theorem side_perm {xs ys : List Pc} (hx : BrdOk xs) (s : ys.Perm xs) {f : Nat → Nat} (h : Tau xs ys f) {p : Nat} (hp : p < ys.length) : ∀ k, k ≤ 4 → sideW ys p k = sideW xs (f p) k
  | 0, _ => rfl
  | k + 1, hk => by
    unfold sideW
    rw [side_perm hx s h hp k (by omega), cnt_perm hx s h hp (by omega)]
theorem maxW_le (xs : List Pc) (m : Int) : ∀ k, maxW xs k ≤ m ↔ 0 ≤ m ∧ ∀ i, i < k → (worstA xs i).2 ≤ m
  | 0 => by simp [maxW]
  | k + 1 => by
    have ih := maxW_le xs m k
    unfold maxW
    rw [Int.max_le, ih]
    constructor
    · rintro ⟨⟨h1, h2⟩, h3⟩
      refine ⟨h1, fun i hi => ?_⟩
      rcases Nat.lt_or_ge i k with h4 | h4
      · exact h2 i h4
      · obtain rfl : i = k := by omega
        exact h3
    · rintro ⟨h1, h2⟩
      exact ⟨⟨h1, fun i hi => h2 i (by omega)⟩, h2 k (by omega)⟩
theorem costW_le_perm {xs ys : List Pc} (hx : BrdOk xs) (s : ys.Perm xs) : costW ys ≤ costW xs := by
  rw [costW_eq ys, maxW_le]
  have h0 := (maxW_le xs (costW xs) xs.length).1 (by rw [costW_eq]; exact Int.le_refl _)
  refine ⟨h0.1, fun j hj => ?_⟩
  have h := tau_ok hx s
  show (sideW ys j 4).2 ≤ _
  rw [side_perm hx s h hj 4 (Nat.le_refl _)]
  exact h0.2 _ (h.lt j hj)
/-- The worst accident is the same, whatever order the pieces have. -/
theorem costW_perm {xs ys : List Pc} (hx : BrdOk xs) (s : ys.Perm xs) : costW ys = costW xs :=
  Int.le_antisymm (costW_le_perm hx s) (costW_le_perm (hx.perm s) s.symm)
end Go.Proofs.YthhfndifcdiomaaGreat
