/-
  Passes that change nothing have come to the end; what a round is.
  The reference's clock: one round.
  A right board with right pushes and spans: what it tells is right.
  The reference's clock: rounds until nothing changes.
  Windows of a board: what both sides tell of it; when the rounds come to rest.
  Conditions: the pieces, pushes and spans are right; none besides.
-/
import Derived.Test.YthhfndifcdiomaaGreatClkH
import Derived.Deep.RegionHeld3
namespace Go.Proofs.YthhfndifcdiomaaGreat
set_option linter.unusedSimpArgs false
set_option linter.unusedVariables false
open Go.RowKit

/-- What the rows of ticks hold, read out of a world: the measure of the passes. -/
def rdTick (w : World) (g : Nat) (y : Nat) : Nat := match w.cell? ⟨g, y / 4 * 4 + y % 4, none⟩ with
  | some (.int _ v) => if v < 0 then big else v.toNat
  | _ => 0
theorem rdTick_eq {w : World} {g n : Nat} {E : Nat → Nat} (h : TkA w g n E) (hE : ∀ y, E y ≤ big) {y : Nat} (hy : y < 4 * n) : rdTick w g y = E y := by
  unfold rdTick
  rw [h.c (y / 4) (y % 4) (by omega) (by omega), show 4 * (y / 4) + y % 4 = y by omega]
  dsimp only
  have := hE y
  unfold dn
  split
  · rw [if_neg (by omega)]; omega
  · rw [if_pos (by omega)]; omega
theorem sumE_congr {A B : Nat → Nat} : ∀ m, (∀ y, y < m → A y = B y) → sumE A m = sumE B m
  | 0, _ => rfl
  | m + 1, h => by
    unfold sumE
    rw [sumE_congr m (fun y hy => h y (by omega)), h m (by omega)]
theorem sum_tick {w : World} {g n : Nat} {E : Nat → Nat} (h : TkA w g n E) (hE : ∀ y, E y ≤ big) : sumE (rdTick w g) (4 * n) = sumE E (4 * n) := sumE_congr _ fun y hy => rdTick_eq h hE hy
theorem Bst.done {F : (Nat → Nat) → Nat → Nat} {m : Nat} (hT : Tick F) (hs : Slow F m) {E Ec : Nat → Nat} (h : Bst F m E Ec false m) : Ec = fixp F := by
  funext y
  refine hT.is_fix (fun z => ?_) y
  rcases h.st with ⟨_, h2, h3⟩ | ⟨h4, _⟩
  · rcases Nat.lt_or_ge z m with hz | hz
    · rw [h2]; exact h3 z hz
    · have h5 := h.pre z
      have h6 := h.le z
      have h7 := hs.out Ec z hz
      omega
  · cases h4
theorem Bst.more {F : (Nat → Nat) → Nat → Nat} {m : Nat} {E Ec : Nat → Nat} {y : Nat} (h : Bst F m E Ec true y) : sumE Ec m < sumE E m := by
  rcases h.st with ⟨h4, _⟩ | ⟨_, h2⟩
  · cases h4
  · exact h2
theorem top_pre {F : (Nat → Nat) → Nat → Nat} (hT : Tick F) (z : Nat) : F (fun _ => big) z ≤ (fun _ => big) z := hT.le _ _
def sdTo (E L : Nat → Nat) (S : Nat → Nat → Bool) (k : Nat) (i s : Nat) : Bool := if 4 * i + s < k then mayT E L i s else S i s
theorem SdA.set {w : World} {g n : Nat} {E L : Nat → Nat} {S : Nat → Nat → Bool} {i s : Nat} (h : SdA w g n (sdTo E L S (4 * i + s))) (hi : i < n) (hs : s < 4) : SdA (w.setCell ⟨g, i * 4 + s, none⟩ (.bool (mayT E L i s))) g n (sdTo E L S (4 * i + s + 1)) := by
  refine ⟨by simpa using h.lt, fun j k hj hk => ?_⟩
  by_cases e : j = i ∧ k = s
  · obtain ⟨rfl, rfl⟩ := e
    unfold sdTo
    rw [if_pos (by omega)]
    exact World.cell?_setCell_same _ _ _ (h.c j k hj hk)
  · rw [World.cell?_setCell_other _ _ _ _ (by intro x; simp only [Addr.mk.injEq] at x; omega), h.c j k hj hk]
    unfold sdTo
    by_cases h1 : 4 * j + k < 4 * i + s
    · rw [if_pos h1, if_pos (by omega)]
    · rw [if_neg h1, if_neg (by omega)]
theorem SdA.full {w : World} {g n : Nat} {E L : Nat → Nat} {S : Nat → Nat → Bool} (h : SdA w g n (sdTo E L S (4 * n))) : SdA w g n (mayT E L) :=
  ⟨h.lt, fun i s hi hs => by
    rw [h.c i s hi hs]
    unfold sdTo
    rw [if_pos (by omega)]⟩
theorem SdA.none {w : World} {g n : Nat} {E L : Nat → Nat} {S : Nat → Nat → Bool} (h : SdA w g n S) : SdA w g n (sdTo E L S 0) :=
  ⟨h.lt, fun i s hi hs => by
    rw [h.c i s hi hs]
    unfold sdTo
    rw [if_neg (by omega)]⟩
theorem nx_opp (x : Int) {s : Nat} (hs : s < 4) : nx (nx x s) (opp s : Nat) = x := by
  have : s = 0 ∨ s = 1 ∨ s = 2 ∨ s = 3 := by omega
  rcases this with rfl | rfl | rfl | rfl <;> simp [nx, opp] <;> omega
theorem ny_opp (y : Int) {s : Nat} (hs : s < 4) : ny (ny y s) (opp s : Nat) = y := by
  have : s = 0 ∨ s = 1 ∨ s = 2 ∨ s = 3 := by omega
  rcases this with rfl | rfl | rfl | rfl <;> simp [ny, opp] <;> omega
theorem own_place {D : ClkD} (hD : D.Ok) {i : Nat} {p : Pc} (h : D.xs[i]? = some p) : idxOf (atC p.x p.y) D.xs = i := by
  refine idxOf_at ?_ h (by simp [atC])
  rw [List.any_eq_false]
  intro q hq hat
  obtain ⟨j, hj, e⟩ := List.mem_take_iff_getElem.1 hq
  have hj2 : D.xs[j]? = some q := by rw [List.getElem?_eq_getElem (by omega), e]
  unfold atC at hat
  simp only [decide_eq_true_eq] at hat
  have := hD.one j i q p hj2 h hat.1 hat.2
  omega
theorem pushV_in {x y s : Int} : ∀ {ps : List Pu}, (∀ p ∈ ps, 0 ≤ p.t ∧ p.t ≤ 1000) → pushV x y s ps ≤ 1000 ∨ pushV x y s ps = big
  | [], _ => .inr rfl
  | p :: ps, h => by
    have ih := pushV_in (x := x) (y := y) (s := s) (ps := ps) (fun q hq => h q (List.mem_cons_of_mem _ hq))
    have hp := h p List.mem_cons_self
    have hle := pushV_le x y s ps
    unfold pushV puVal
    split <;> omega
theorem net_ok {D : ClkD} (hD : D.Ok) : D.net.Ok := by
  refine ⟨fun i s q hi hs h => ?_, fun i => ?_, fun i => ?_, fun i s => ?_⟩
  · have hi' : i < D.xs.length := hi
    have e1 : D.xs[i]? = some D.xs[i] := List.getElem?_eq_getElem hi'
    have hge : 0 ≤ nearI D.xs i s := by
      apply Classical.byContradiction
      intro hn
      rw [near_none (by omega)] at h
      cases h
    have hq : nearI D.xs i s = q := by
      obtain ⟨j, hj, _⟩ := near_nat hge
      rw [near_some hj] at h
      cases h
      exact hj
    have hu : nearI D.xs i s = idxOf (atC (nx D.xs[i].x s) (ny D.xs[i].y s)) D.xs := by unfold nearI; rw [e1]
    rw [hu] at hge hq
    have hany : D.xs.any (atC (nx D.xs[i].x s) (ny D.xs[i].y s)) = true := by
      have := idxOf_ge (atC (nx D.xs[i].x s) (ny D.xs[i].y s)) D.xs
      rw [← this, decide_eq_true_iff]
      exact hge
    obtain ⟨k, x, h1, h2, h3, _⟩ := idxOf_some hany
    have hk : k = q := by omega
    subst hk
    have hkl := (List.getElem?_eq_some_iff.1 h2).1
    refine ⟨hkl, near_some ?_⟩
    unfold atC at h3
    simp only [decide_eq_true_eq] at h3
    unfold nearI
    rw [h2]
    dsimp only
    rw [h3.1, h3.2, nx_opp _ hs, ny_opp _ hs]
    exact own_place hD e1
  · simp only [ClkD.net, netOf]
    cases e : D.ss[i]? with
    | none => simp
    | some x =>
      have := hD.sp x (List.mem_of_getElem? e)
      dsimp only
      omega
  · simp only [ClkD.net, netOf]
    cases e : D.ss[i]? with
    | none => simp
    | some x =>
      have := hD.sp x (List.mem_of_getElem? e)
      dsimp only
      omega
  · simp only [ClkD.net, netOf]
    cases e : D.xs[i]? with
    | none => exact .inr rfl
    | some p => exact pushV_in fun q hq => (hD.pu q hq).2.2.2
theorem sumE_const (c : Nat) : ∀ m, sumE (fun _ => c) m = m * c
  | 0 => by simp [sumE]
  | m + 1 => by unfold sumE; rw [sumE_const c m, Nat.succ_mul]
theorem rd_step {N : Net} (ok : N.Ok) (k : Nat) : rdSame N (k + 1) = true ∨ sumE (rd N (k + 1)).L (4 * N.n) < sumE (rd N k).L (4 * N.n) := by
  by_cases h : sameL (4 * N.n) (rd N k).L (rd N (k + 1)).L = true
  · left
    have e := rd_L_eq ok h
    have e1 : rd N (k + 1 + 1) = rd N (k + 1) := by
      show rdNext N (rd N (k + 1)).L = rdNext N (rd N k).L
      rw [e]
    unfold rdSame
    rw [e1, Bool.and_eq_true]
    exact ⟨sameL_iff.2 fun y _ => rfl, sameL_iff.2 fun y _ => rfl⟩
  · right
    have hd := rd_down ok k
    have : ∃ y, y < 4 * N.n ∧ (rd N (k + 1)).L y < (rd N k).L y := by
      apply Classical.byContradiction
      intro hn
      refine h (sameL_iff.2 fun y hy => ?_)
      have := hd y
      rcases Nat.lt_or_ge ((rd N (k + 1)).L y) ((rd N k).L y) with h1 | h1
      · exact absurd ⟨y, hy, h1⟩ hn
      · omega
    obtain ⟨y, hy, hlt⟩ := this
    have key : ∀ m, sumE (rd N (k + 1)).L m + (if y < m then 1 else 0) ≤ sumE (rd N k).L m := by
      intro m
      induction m with
      | zero => simp [sumE]
      | succ m ih =>
        unfold sumE
        have := hd m
        by_cases h1 : y < m
        · have h2 : y < m + 1 := by omega
          simp only [h1, h2, if_true] at ih ⊢
          omega
        · by_cases h3 : y = m
          · subst h3
            simp only [Nat.lt_irrefl, Nat.lt_succ_self, if_true, if_false] at ih ⊢
            omega
          · have h2 : ¬ y < m + 1 := by omega
            simp only [h1, h2, if_false] at ih ⊢
            omega
    have := key (4 * N.n)
    simp only [hy, if_true] at this
    omega
/-- It ends, and soon. -/
theorem rd_end {N : Net} (ok : N.Ok) : ∃ K, rdSame N K = true ∧ K ≤ 4 * N.n * big + 1 := by
  have : ∀ f k, sumE (rd N k).L (4 * N.n) ≤ f → ∃ K, rdSame N K = true ∧ K ≤ k + f + 1 := by
    intro f
    induction f with
    | zero =>
      intro k hk
      rcases rd_step ok k with h | h
      · exact ⟨_, h, by omega⟩
      · omega
    | succ f ih =>
      intro k hk
      rcases rd_step ok k with h | h
      · exact ⟨_, h, by omega⟩
      · obtain ⟨K, h1, h2⟩ := ih (k + 1) (by omega)
        exact ⟨K, h1, by omega⟩
  obtain ⟨K, h1, h2⟩ := this _ 0 (Nat.le_refl _)
  refine ⟨K, h1, ?_⟩
  have e : sumE (rd N 0).L (4 * N.n) = 4 * N.n * big := sumE_const big _
  omega
theorem none_so_far {p : Nat → Bool} {k : Nat} (h : ∀ j, j < k → p j = false) (e : p k = false) : ∀ j, j < k + 1 → p j = false := by
  intro j hj
  rcases Nat.lt_or_ge j k with h1 | h1
  · exact h j h1
  · obtain rfl : j = k := by omega
    exact e
theorem rd_leE {N : Net} (ok : N.Ok) (k : Nat) : ∀ y, (rd N k).E y ≤ big := by
  cases k with
  | zero => intro y; exact Nat.le_refl _
  | succ k => exact (early_tick ok _).fix_le
/-- The clock with its rows. -/
def CkS (w : World) (base cb : Nat) (D : ClkD) (R : Rd) : Prop := ∃ eg lg sg ec lc sc, Clk w cb D ∧ Apart cb (cb + 1) D ∧ Apart sg cb D ∧
  w.cell? ⟨cb, 4, none⟩ = some (.slice (some ⟨eg, 0, none⟩) D.xs.length ec) ∧ w.cell? ⟨cb, 5, none⟩ = some (.slice (some ⟨lg, 0, none⟩) D.xs.length lc) ∧ w.cell? ⟨cb, 6, none⟩ = some (.slice (some ⟨sg, 0, none⟩) D.xs.length sc) ∧
  TkA w eg D.xs.length R.E ∧ TkA w lg D.xs.length R.L ∧ SdA w sg D.xs.length R.S ∧ Fz w cb ∧ Fz w sg ∧ eg ≠ cb ∧ eg ≠ sg ∧ lg ≠ cb ∧ lg ≠ sg ∧ sg ≠ cb ∧ base ≤ cb ∧ base ≤ sg
/-- A box of four cells. -/
structure Wx (w : World) (g : Nat) (a b c d : Value) : Prop where
  x0 : w.cell? ⟨g, 0, none⟩ = some a
  x1 : w.cell? ⟨g, 1, none⟩ = some b
  x2 : w.cell? ⟨g, 2, none⟩ = some c
  x3 : w.cell? ⟨g, 3, none⟩ = some d
theorem Wx.set0 {w : World} {g : Nat} {a b c d : Value} (h : Wx w g a b c d) (v : Value) : Wx (w.setCell ⟨g, 0, none⟩ v) g v b c d :=
  ⟨World.cell?_setCell_same _ _ _ h.x0, (World.cell?_setCell_other _ _ _ _ (by intro x; simp at x)).trans h.x1, (World.cell?_setCell_other _ _ _ _ (by intro x; simp at x)).trans h.x2, (World.cell?_setCell_other _ _ _ _ (by intro x; simp at x)).trans h.x3⟩
theorem Wx.set2 {w : World} {g : Nat} {a b c d : Value} (h : Wx w g a b c d) (v : Value) : Wx (w.setCell ⟨g, 2, none⟩ v) g a b v d :=
  ⟨(World.cell?_setCell_other _ _ _ _ (by intro x; simp at x)).trans h.x0, (World.cell?_setCell_other _ _ _ _ (by intro x; simp at x)).trans h.x1, World.cell?_setCell_same _ _ _ h.x2, (World.cell?_setCell_other _ _ _ _ (by intro x; simp at x)).trans h.x3⟩
theorem Wx.set1 {w : World} {g : Nat} {a b c d : Value} (h : Wx w g a b c d) (v : Value) : Wx (w.setCell ⟨g, 1, none⟩ v) g a v c d :=
  ⟨(World.cell?_setCell_other _ _ _ _ (by intro x; simp at x)).trans h.x0, World.cell?_setCell_same _ _ _ h.x1, (World.cell?_setCell_other _ _ _ _ (by intro x; simp at x)).trans h.x2, (World.cell?_setCell_other _ _ _ _ (by intro x; simp at x)).trans h.x3⟩
theorem Wx.set3 {w : World} {g : Nat} {a b c d : Value} (h : Wx w g a b c d) (v : Value) : Wx (w.setCell ⟨g, 3, none⟩ v) g a b c v :=
  ⟨(World.cell?_setCell_other _ _ _ _ (by intro x; simp at x)).trans h.x0, (World.cell?_setCell_other _ _ _ _ (by intro x; simp at x)).trans h.x1, (World.cell?_setCell_other _ _ _ _ (by intro x; simp at x)).trans h.x2, World.cell?_setCell_same _ _ _ h.x3⟩
theorem Wx.lt {w : World} {g : Nat} {a b c d : Value} (h : Wx w g a b c d) : g < w.heap.size := World.block_lt_of_cell? w ⟨g, 0, none⟩ h.x0
theorem Wx.below {w w1 : World} {g B : Nat} {a b c d : Value} (h : Wx w g a b c d) (hb : Below B w w1) (hB : g < B) : Wx w1 g a b c d :=
  ⟨(hb.cell (p := ⟨g, _, none⟩) hB).trans h.x0, (hb.cell (p := ⟨g, _, none⟩) hB).trans h.x1, (hb.cell (p := ⟨g, _, none⟩) hB).trans h.x2, (hb.cell (p := ⟨g, _, none⟩) hB).trans h.x3⟩
theorem Wx.kept {w w1 : World} {g : Nat} {r : Option Nat} {a b c d : Value} (h : Wx w g a b c d) (hg : w.grownBy w1 r) (hne : some g ≠ r) : Wx w1 g a b c d :=
  ⟨(hg.cell_far ⟨g, _, none⟩ h.lt hne).trans h.x0, (hg.cell_far ⟨g, _, none⟩ h.lt hne).trans h.x1, (hg.cell_far ⟨g, _, none⟩ h.lt hne).trans h.x2, (hg.cell_far ⟨g, _, none⟩ h.lt hne).trans h.x3⟩
def bI (b : Bool) : Int := if b = true then 1 else 0
def sBits (f : Nat → Bool) : Int := bI (f 0) + 2 * bI (f 1) + 4 * bI (f 2) + 8 * bI (f 3)
theorem sBits_in (f : Nat → Bool) : 0 ≤ sBits f ∧ sBits f ≤ 15 := by
  unfold sBits
  cases f 0 <;> cases f 1 <;> cases f 2 <;> cases f 3 <;> decide
theorem sBits_or (f : Nat → Bool) {s : Nat} (hs : s < 4) : bits BinOp.or IntKind.u8 (sBits f) (2 ^ s) = sBits (fun k => decide (k = s) || f k) := by
  have : s = 0 ∨ s = 1 ∨ s = 2 ∨ s = 3 := by omega
  unfold sBits
  rcases this with rfl | rfl | rfl | rfl <;> simp only [Nat.reduceEqDiff, decide_true, decide_false, Bool.true_or, Bool.false_or, reduceCtorEq] <;> cases f 0 <;> cases f 1 <;> cases f 2 <;> cases f 3 <;> decide
theorem sBits_has (f : Nat → Bool) {s : Nat} (hs : s < 4) : bitI (sBits f) s = f s := by
  have : s = 0 ∨ s = 1 ∨ s = 2 ∨ s = 3 := by omega
  unfold sBits
  rcases this with rfl | rfl | rfl | rfl <;> cases f 0 <;> cases f 1 <;> cases f 2 <;> cases f 3 <;> decide
theorem sBits_none : sBits (fun _ => false) = 0 := rfl
theorem sBits_congr {f g : Nat → Bool} (h : ∀ k, k < 4 → f k = g k) : sBits f = sBits g := by
  unfold sBits
  rw [h 0 (by omega), h 1 (by omega), h 2 (by omega), h 3 (by omega)]
def upTo (f : Nat → Bool) (s : Nat) (j : Nat) : Bool := decide (j < s) && f j
theorem upTo_zero (f : Nat → Bool) : sBits (upTo f 0) = 0 := by
  have : upTo f 0 = fun _ => false := by funext j; simp [upTo]
  rw [this]; rfl
theorem upTo_four (f : Nat → Bool) : sBits (upTo f 4) = sBits f := sBits_congr fun k hk => by unfold upTo; rw [decide_eq_true hk]; rfl
theorem upTo_no {f : Nat → Bool} {s : Nat} (h : f s = false) : upTo f (s + 1) = upTo f s := by
  funext j
  unfold upTo
  by_cases e : j = s
  · subst e; rw [h]; simp
  · rw [show decide (j < s + 1) = decide (j < s) by rw [decide_eq_decide]; omega]
theorem upTo_yes {f : Nat → Bool} {s : Nat} (hs : s < 4) (h : f s = true) : bits BinOp.or IntKind.u8 (sBits (upTo f s)) (2 ^ s) = sBits (upTo f (s + 1)) := by
  rw [sBits_or _ hs]
  congr 1
  funext j
  unfold upTo
  by_cases e : j = s
  · subst e; rw [h]; simp
  · rw [show decide (j < s + 1) = decide (j < s) by rw [decide_eq_decide]; omega, decide_eq_false e, Bool.false_or]
theorem four_of {s : Nat} (h : s < 4) : s = 0 ∨ s = 1 ∨ s = 2 ∨ s = 3 := by omega
def minW (f : Nat → Bool) (E : Nat → Nat) : Nat → Nat
  | 0 => big
  | k + 1 => if f k = true then min (minW f E k) (E k) else minW f E k
theorem minW_le (f : Nat → Bool) (E : Nat → Nat) : ∀ k, minW f E k ≤ big
  | 0 => Nat.le_refl _
  | k + 1 => by have := minW_le f E k; unfold minW; split <;> omega
theorem minW_congr {f g : Nat → Bool} {E E' : Nat → Nat} : ∀ m, (∀ k, k < m → f k = g k ∧ E k = E' k) → minW f E m = minW g E' m
  | 0, _ => rfl
  | m + 1, h => by
    unfold minW
    rw [minW_congr m (fun k hk => h k (by omega)), (h m (by omega)).1, (h m (by omega)).2]
def winG (M : Nat → Nat → Bool) (E L : Nat → Nat) (i : Nat) : Wn :=
  ⟨sBits (M i), decide (best4 (fun k => L (4 * i + k)) < big), dn (minW (M i) (fun k => E (4 * i + k)) 4), dn (best4 fun k => L (4 * i + k))⟩
def winL (M : Nat → Nat → Bool) (E L : Nat → Nat) : Nat → List Wn
  | 0 => []
  | k + 1 => winL M E L k ++ [winG M E L k]
theorem winL_length (M : Nat → Nat → Bool) (E L : Nat → Nat) : ∀ k, (winL M E L k).length = k
  | 0 => rfl
  | k + 1 => by simp [winL, winL_length M E L k]
/-- The first round that changes nothing, sought with fuel. -/
def restF (N : Net) : Nat → Nat → Nat
  | 0, k => k
  | f + 1, k => if rdSame N k = true then k else restF N f (k + 1)
theorem restF_eq {N : Net} {K : Nat} (h1 : rdSame N K = true) (h2 : ∀ j, j < K → rdSame N j = false) : ∀ f k, k ≤ K → K < k + f → restF N f k = K
  | 0, k, hk, hf => by omega
  | f + 1, k, hk, hf => by
    unfold restF
    by_cases e : k = K
    · subst e
      rw [if_pos h1]
    · rw [if_neg (by rw [h2 k (by omega)]; simp)]
      exact restF_eq h1 h2 f (k + 1) (by omega) (by omega)
def restB (N : Net) : Nat := 4 * N.n * big + 2
theorem restB_def (N : Net) : restB N = 4 * N.n * big + 2 := rfl
def rest (N : Net) : Nat := restF N (restB N) 0
theorem first_of {p : Nat → Bool} : ∀ K, p K = true → ∃ k, k ≤ K ∧ p k = true ∧ ∀ j, j < k → p j = false := by
  intro K
  induction K using Nat.strongRecOn with
  | _ K ih =>
    intro h
    by_cases hx : ∃ j, j < K ∧ p j = true
    · obtain ⟨j, hj, hp⟩ := hx
      obtain ⟨k, h1, h2, h3⟩ := ih j hj hp
      exact ⟨k, by omega, h2, h3⟩
    · refine ⟨K, Nat.le_refl _, h, fun j hj => ?_⟩
      cases e : p j with
      | false => rfl
      | true => exact absurd ⟨j, hj, e⟩ hx
theorem rest_eq {N : Net} (ok : N.Ok) {K : Nat} (h1 : rdSame N K = true) (h2 : ∀ j, j < K → rdSame N j = false) : rest N = K := by
  obtain ⟨K', h3, h4⟩ := rd_end ok
  have hle : K ≤ K' := by
    rcases Nat.lt_or_ge K' K with h | h
    · rw [h2 K' h] at h3; cases h3
    · exact h
  exact restF_eq h1 h2 _ 0 (Nat.zero_le _) (by rw [restB_def]; omega)
theorem rest_is {N : Net} (ok : N.Ok) : rdSame N (rest N) = true ∧ (∀ j, j < rest N → rdSame N j = false) ∧ rest N ≤ 4 * N.n * big + 1 := by
  obtain ⟨K', h3, h4⟩ := rd_end ok
  obtain ⟨k, h5, h6, h7⟩ := first_of (p := rdSame N) K' h3
  rw [rest_eq ok h6 h7]
  exact ⟨h6, h7, by omega⟩
/-- The windows at rest. -/
def winsOf (N : Net) : List Wn := winL (rd N (rest N + 1)).S (rd N (rest N + 1)).E (rd N (rest N + 1)).L N.n
theorem winsOf_length (N : Net) : (winsOf N).length = N.n := winL_length _ _ _ _
/-- From which sides a piece may fall stands, at rest. -/
theorem may_rest {N : Net} (ok : N.Ok) {K : Nat} (h : rdSame N K = true) : mayT (rd N (K + 1)).E (rd N (K + 1)).L = (rd N (K + 1)).S := by
  unfold rdSame at h
  rw [Bool.and_eq_true] at h
  have e := rd_L_eq ok h.2
  have : (rd N (K + 1)).S = mayT (rd N (K + 1)).E (rd N K).L := rfl
  rw [this, e]
end Go.Proofs.YthhfndifcdiomaaGreat
