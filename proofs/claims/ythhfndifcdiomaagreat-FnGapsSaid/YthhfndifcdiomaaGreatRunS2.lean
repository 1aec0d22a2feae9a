/-
  How all pieces fall, the reference's run at one push.
  Conditions: the board is right, of 60 pieces at most.
-/
import Derived.Test.YthhfndifcdiomaaGreatRunS
namespace Go.Proofs.YthhfndifcdiomaaGreat
open Go.RowKit
set_option linter.unusedSimpArgs false
set_option linter.unusedVariables false

theorem wp_cell3 (g k : Nat) (w : World) (a b c : Value) : ((w.setCell ⟨g, k * 3, none⟩ a).setCell ⟨g, k * 3 + 1, none⟩ b).setCell ⟨g, k * 3 + 2, none⟩ c = ((w.setCell ⟨g, k * 3, none⟩ a).setCell ⟨g, k * 3 + 1, none⟩ b).setCell ⟨g, k * 3 + 2, none⟩ c := rfl
def dnU (D : Nat → Bool) (x : Nat) : Nat → Bool := fun y => decide (y = x) || D y
/-- What the run holds: three rows of its own. -/
structure RunW (w0 w : World) (dg fg ng n : Nat) (D : Nat → Bool) (E F : Nat → Nat) : Prop where
  below : Below w0.heap.size w0 w
  d : DnA w dg n D
  f : FaA w fg n F
  x : FaA w ng n E
  zd : Fz w dg
  zf : Fz w fg
  zx : Fz w ng
  nz : dg ≠ fg ∧ dg ≠ ng ∧ fg ≠ ng ∧ w0.heap.size ≤ dg ∧ w0.heap.size ≤ fg ∧ w0.heap.size ≤ ng
theorem RunW.step {w0 w w1 : World} {dg fg ng n : Nat} {D : Nat → Bool} {E F : Nat → Nat} (h : RunW w0 w dg fg ng n D E F) (hb : Below w.heap.size w w1) : RunW w0 w1 dg fg ng n D E F :=
  ⟨below_of h.below h.below.size hb, h.d.below hb h.d.lt, h.f.below hb h.f.lt, h.x.below hb h.x.lt, h.zd.below hb h.d.lt, h.zf.below hb h.f.lt, h.zx.below hb h.x.lt, h.nz⟩
def set3 (w : World) (g i : Nat) (v : Nat) (b : Int) : World := ((w.setCell ⟨g, i * 3, none⟩ (.int .i64 (keyT v))).setCell ⟨g, i * 3 + 1, none⟩ (.int .i8 (keyS v))).setCell ⟨g, i * 3 + 2, none⟩ (.int .i64 b)
theorem set3_grown (w : World) (g i v : Nat) (b : Int) : w.grownBy (set3 w g i v b) (some g) := ((store_grown w g _ _).trans (store_grown _ g _ _)).trans (store_grown _ g _ _)
theorem set3_fz {w : World} {g g2 i v : Nat} {b : Int} (h : Fz w g2) : Fz (set3 w g i v b) g2 := ((h.set _ _).set _ _).set _ _
theorem RunW.setF {w0 w : World} {dg fg ng n : Nat} {D : Nat → Bool} {E F : Nat → Nat} (h : RunW w0 w dg fg ng n D E F) {i : Nat} (hi : i < n) (v : Nat) (b : Int) : RunW w0 (set3 w fg i v b) dg fg ng n D E (upd F i v) := by
  have hz := h.nz
  exact ⟨h.below.grown (set3_grown _ _ _ _ _) h.below.size (fun k hk => by cases hk; exact hz.2.2.2.2.1), h.d.kept (set3_grown w fg i v b) (by simp; omega), h.f.set hi v b, h.x.kept (set3_grown w fg i v b) (by simp; omega), set3_fz h.zd, set3_fz h.zf, set3_fz h.zx, hz⟩
theorem RunW.setX {w0 w : World} {dg fg ng n : Nat} {D : Nat → Bool} {E F : Nat → Nat} (h : RunW w0 w dg fg ng n D E F) {i : Nat} (hi : i < n) (v : Nat) (b : Int) : RunW w0 (set3 w ng i v b) dg fg ng n D (upd E i v) F := by
  have hz := h.nz
  exact ⟨h.below.grown (set3_grown _ _ _ _ _) h.below.size (fun k hk => by cases hk; exact hz.2.2.2.2.2), h.d.kept (set3_grown w ng i v b) (by simp; omega), h.f.kept (set3_grown w ng i v b) (by simp; omega), h.x.set hi v b, set3_fz h.zd, set3_fz h.zf, set3_fz h.zx, hz⟩
theorem RunW.setD {w0 w : World} {dg fg ng n : Nat} {D : Nat → Bool} {E F : Nat → Nat} (h : RunW w0 w dg fg ng n D E F) {i : Nat} (hi : i < n) : RunW w0 (w.setCell ⟨dg, i, none⟩ (.bool true)) dg fg ng n (dnU D i) E F := by
  have hz := h.nz
  exact ⟨h.below.setCell hz.2.2.2.1 _, h.d.set hi, h.f.kept (store_grown w dg i (.bool true)) (by simp; omega), h.x.kept (store_grown w dg i (.bool true)) (by simp; omega), h.zd.set _ _, h.zf.set _ _, h.zx.set _ _, hz⟩
theorem RunW.congr {w0 w : World} {dg fg ng n : Nat} {D : Nat → Bool} {E F E' F' : Nat → Nat} (h : RunW w0 w dg fg ng n D E F) (e : ∀ y, y < n → E y = E' y) (f : ∀ y, y < n → F y = F' y) : RunW w0 w dg fg ng n D E' F' :=
  ⟨h.below, h.d, h.f.congr f, h.x.congr e, h.zd, h.zf, h.zx, h.nz⟩
def lowE (k : Nat) : Nat → Nat := fun y => if y < k then big else 0
theorem lowE_up (k : Nat) : upd (lowE k) k big = lowE (k + 1) := by
  funext y
  unfold upd lowE
  split
  · rename_i e; subst e; rw [if_pos (by omega)]
  · split
    · rw [if_pos (by omega)]
    · rw [if_neg (by omega)]
/-- The first keys: the push alone. -/
def oneE (B : Bo) (p sd : Nat) : Nat → Nat := fun y => if y = p ∧ B.can p sd = true then sd else big
theorem oneE_eq {B : Bo} {p sd : Nat} (hp : p < B.n) (hs : sd < 4) (y : Nat) : oneE B p sd y = fallF B (one1 p sd) (fun _ => big) y := by
  have hb2 : big = 1099511627776 := rfl
  have hk : ∀ s, hitK B (one1 p sd) (fun _ => big) y s = if y = p ∧ s = sd ∧ B.can p sd = true then sd else big := by
    intro s
    have hg : (match B.near y s with | none => big | some q => gK B q (opp s) s ((fun _ => big : Nat → Nat) q)) = big := by
      cases B.near y s with
      | none => rfl
      | some q => exact gK_big _ _ _ _
    have hu : hitK B (one1 p sd) (fun _ => big) y s = if B.can y s = true then min (one1 p sd y s) big else big := by
      unfold hitK
      by_cases hc : B.can y s = true
      · rw [if_pos hc, if_pos hc]
        exact congrArg (min _) hg
      · rw [if_neg hc, if_neg hc]
    rw [hu]
    by_cases hc : B.can y s = true
    · rw [if_pos hc]
      unfold one1
      by_cases h1 : y = p ∧ s = sd
      · obtain ⟨rfl, rfl⟩ := h1
        rw [if_pos ⟨rfl, rfl⟩, if_pos ⟨rfl, rfl, hc⟩]
        omega
      · rw [if_neg h1, if_neg (fun h => h1 ⟨h.1, h.2.1⟩)]
        exact Nat.min_self _
    · rw [if_neg hc, if_neg]
      rintro ⟨rfl, rfl, h⟩
      exact hc h
  unfold oneE fallF
  split
  · rename_i h
    obtain ⟨rfl, hc⟩ := h
    rw [if_pos hp]
    refine Nat.le_antisymm (le_best4 fun k hk4 => ?_) (Nat.le_trans (best4_le hs) ?_)
    · rw [hk]; split <;> omega
    · rw [hk, if_pos ⟨rfl, rfl, hc⟩]; exact Nat.le_refl _
  · rename_i h
    split
    · have : ∀ s, hitK B (one1 p sd) (fun _ => big) y s = big := fun s => by rw [hk, if_neg (fun h2 => h ⟨h2.1, h2.2.2⟩)]
      unfold best4
      rw [this, this, this, this]
      simp
    · rfl
/-- How many are done. -/
def cntB (D : Nat → Bool) : Nat → Nat
  | 0 => 0
  | k + 1 => cntB D k + if D k = true then 1 else 0
theorem cntB_le (D : Nat → Bool) : ∀ k, cntB D k ≤ k
  | 0 => Nat.le_refl _
  | k + 1 => by have := cntB_le D k; unfold cntB; split <;> omega
theorem cntB_congr {D D' : Nat → Bool} : ∀ k, (∀ y, y < k → D y = D' y) → cntB D k = cntB D' k
  | 0, _ => rfl
  | k + 1, h => by unfold cntB; rw [cntB_congr k (fun y hy => h y (by omega)), h k (by omega)]
theorem cntB_add {D : Nat → Bool} {a : Nat} (ha : D a = false) : ∀ k, a < k → cntB (fun y => decide (y = a) || D y) k = cntB D k + 1
  | 0, h => by omega
  | k + 1, h => by
    unfold cntB
    by_cases e : a = k
    · subst e
      rw [cntB_congr (D := fun y => decide (y = a) || D y) (D' := D) a (fun y hy => by simp; omega), ha]
      simp
    · rw [cntB_add ha k (by omega)]
      have : (decide (k = a) || D k) = D k := by simp; omega
      rw [this]; omega
def cntW (w : World) (g : Nat) : Nat → Nat
  | 0 => 0
  | k + 1 => cntW w g k + match w.cell? ⟨g, k, none⟩ with | some (.bool true) => 1 | _ => 0
theorem cntW_eq {w : World} {g : Nat} {D : Nat → Bool} : ∀ k, (∀ i, i < k → w.cell? ⟨g, i, none⟩ = some (.bool (D i))) → cntW w g k = cntB D k
  | 0, _ => rfl
  | k + 1, h => by
    unfold cntW cntB
    rw [cntW_eq k (fun i hi => h i (by omega)), h k (by omega)]
    cases D k <;> rfl
theorem leadK_tick (B : Bo) (ok : B.Ok) (x v y : Nat) (h : leadK B x v y < big) : leadK B x v y / 4 ≤ v / 4 + 9 := by
  unfold leadK at h ⊢
  split
  · rename_i hy
    rw [if_pos hy] at h
    obtain ⟨k, hk, e⟩ := best4_ex (fun s => if B.can y s = true ∧ B.near y s = some x then gK B x (opp s) s v else big)
    rw [e] at h ⊢
    split
    · rename_i hc
      rw [if_pos hc] at h
      have := ok.d1 x
      unfold gK at h ⊢
      split
      · rename_i h2
        rw [if_pos h2] at h
        omega
      · rename_i h2
        rw [if_neg h2] at h
        omega
    · rename_i hc
      rw [if_neg hc] at h
      omega
  · rename_i hy
    rw [if_neg hy] at h
    omega
/-- What falls can be hit where it is. -/
theorem fall_can {B : Bo} {p sd : Nat} (hs : sd < 4) {M : Nat → Nat} {y v : Nat} (h : v = fallF B (one1 p sd) M y) (hv : v < big) : B.can y (v % 4) = true := by
  have hb2 : big = 1099511627776 := rfl
  unfold fallF at h
  split at h
  · obtain ⟨k, hk, e⟩ := best4_ex (hitK B (one1 p sd) M y)
    rw [e] at h
    unfold hitK at h
    split at h
    · rename_i hc
      have : v % 4 = k := by
        have h1 : one1 p sd y k < big → one1 p sd y k % 4 = k := by
          unfold one1
          split
          · rename_i hx; intro _; rw [hx.2]; omega
          · intro hx; omega
        cases hn : B.near y k with
        | none =>
          rw [hn] at h
          dsimp only at h
          omega
        | some q =>
          rw [hn] at h
          dsimp only at h
          have h2 : gK B q (opp k) k (M q) < big → gK B q (opp k) k (M q) % 4 = k := by
            unfold gK
            split
            · intro hx; omega
            · intro hx; omega
          omega
      rw [this]; exact hc
    · omega
  · omega
theorem keyT_sd {sd : Nat} (hs : sd < 4) : keyT sd = 0 := by
  have hb2 : big = 1099511627776 := rfl
  rw [keyT_lt (by omega), show sd / 4 = 0 by omega]; rfl
theorem keyS_sd {sd : Nat} (hs : sd < 4) : keyS sd = (sd : Int) := by
  have hb2 : big = 1099511627776 := rfl
  rw [keyS_lt (by omega), show sd % 4 = sd by omega]
def RunL (w wr : World) (dg fg ng : Nat) (xs : List Pc) (i0 sd : Nat) : Prop :=
  ∃ D E, RunW w wr dg fg ng xs.length D E (fun y => if D y = true then E y else big) ∧ Fnd (fallF (boOf xs) (one1 i0 sd)) D E ∧ (∀ y, E y < big → E y / 4 ≤ 9 * cntB D xs.length)
theorem runL_start {w wr : World} {dg fg ng : Nat} {xs : List Pc} {i0 sd : Nat} (hs : sd < 4) (hi0 : i0 < xs.length) (h : RunW w wr dg fg ng xs.length (fun _ => false) (oneE (boOf xs) i0 sd) (fun _ => big)) : RunL w wr dg fg ng xs i0 sd := by
  have hb2 : big = 1099511627776 := rfl
  refine ⟨_, _, h.congr (fun _ _ => rfl) (fun _ _ => by simp), fnd_start (oneE_eq hi0 hs), fun y hy => ?_⟩
  unfold oneE at hy ⊢
  split
  · omega
  · rename_i h2; rw [if_neg h2] at hy; omega
def atV : Option Nat → Int
  | none => -1
  | some a => (a : Int)
theorem pick_succ (D : Nat → Bool) (E : Nat → Nat) (k : Nat) : (D k = true → pickR D E (k + 1) = pickR D E k) ∧ (D k = false → E k < big → pickR D E k = none → pickR D E (k + 1) = some k) ∧ (∀ x, D k = false → pickR D E k = some x → (E k < big ∧ E k / 4 < E x / 4 → pickR D E (k + 1) = some k) ∧ (¬ (E k < big ∧ E k / 4 < E x / 4) → pickR D E (k + 1) = some x)) ∧ (¬ E k < big → pickR D E (k + 1) = pickR D E k) := by
  refine ⟨fun h => ?_, fun h h2 h3 => ?_, fun x h h2 => ⟨fun h3 => ?_, fun h3 => ?_⟩, fun h => ?_⟩
  · rw [pickR]; cases e : pickR D E k <;> simp [h]
  · rw [pickR, h3]; simp [h, h2]
  · rw [pickR, h2]; simp [h, h3.1, h3.2]
  · rw [pickR, h2]; simp only [h, true_and]; exact if_neg h3
  · rw [pickR]; cases e : pickR D E k <;> simp [h]
theorem run_end {B : Bo} {D : Nat → Bool} {E : Nat → Nat} {P : Nat → Nat → Nat} (h : Fnd (fallF B P) D E) (hb : ∀ y, E y ≤ big) {n : Nat} (hn : ∀ y, y < n → D y = false → ¬ E y < big) (hB : B.n = n) (z : Nat) (hz : D z = false) : ¬ E z < big := by
  by_cases h1 : z < n
  · exact hn z h1 hz
  · have := h.eq z
    unfold fallF at this
    rw [if_neg (by omega)] at this
    omega
theorem upd_self (f : Nat → Nat) (k : Nat) : upd f k (f k) = f := by
  funext y
  unfold upd
  split
  · rename_i e; rw [e]
  · rfl
theorem run_row {B : Bo} {P : Nat → Nat → Nat} {D : Nat → Bool} {E : Nat → Nat} {x : Nat} (h : Fnd (fallF B P) D E) (hx : D x = false) (y : Nat) (hB : B.Ok) (hv : E x < big) : upd (fun y => if D y = true then E y else big) x (E x) y = if dnU D x y = true then min (E y) (leadK B x (E x) y) else big := by
  have hm := lead_more hB (x := x) hv y
  unfold upd dnU
  by_cases e : y = x
  · subst e
    simp only [if_true, decide_true, Bool.true_or]
    omega
  · simp only [e, if_false, decide_false, Bool.false_or]
    by_cases hy : D y = true
    · have := h.ord y x hy hx
      simp only [hy, if_true]
      omega
    · simp [hy]
/-- What the tell of one side does. -/
theorem tell_cases (B : Bo) (D : Nat → Bool) (x v : Nat) (T : Nat → Nat) (s : Nat) : (B.hit x (v % 4) s = false → tellR B D x v T s = T) ∧ (B.near x s = none → tellR B D x v T s = T) ∧ (∀ k, B.near x s = some k → D k = true → tellR B D x v T s = T) ∧ (∀ k, B.near x s = some k → B.can k (opp s) = false → tellR B D x v T s = T) ∧
    (∀ k, B.near x s = some k → B.hit x (v % 4) s = true → D k = false → B.can k (opp s) = true → tellR B D x v T s = upd T k (min (T k) (4 * (v / 4 + B.d x) + opp s))) := by
  unfold tellR
  refine ⟨fun h => ?_, fun h => ?_, fun k h h2 => ?_, fun k h h2 => ?_, fun k h h2 h3 h4 => ?_⟩
  · cases B.near x s with
    | none => rfl
    | some k => dsimp only; rw [if_neg (by rw [h]; simp)]
  · rw [h]
  · rw [h]; dsimp only; rw [if_neg (by rw [h2]; simp)]
  · rw [h]; dsimp only; rw [if_neg (by rw [h2]; simp)]
  · rw [h]; dsimp only; rw [if_pos ⟨h2, h3, h4⟩]
theorem bit_tmod {v : Int} (h : 0 ≤ v) (s : Nat) : ((v / 2 ^ s).tmod 2 == 0) = !bitI v s := by
  have h0 : 0 ≤ v / 2 ^ s := Int.ediv_nonneg h (Int.le_of_lt (Int.pow_pos (by omega)))
  rw [Int.tmod_eq_emod_of_nonneg h0]
  unfold bitI
  generalize v / 2 ^ s = u at *
  rw [Bool.eq_iff_iff]
  simp
  omega
theorem cel2_below {w w1 : World} {a b : Addr} {v0 v1 : Value} (hb : Below w.heap.size w w1) (h : w.cell? a = some v0 ∧ w.cell? b = some v1) : w1.cell? a = some v0 ∧ w1.cell? b = some v1 := ⟨cell_on hb h.1, cell_on hb h.2⟩
set_option maxRecDepth 1000000 in
set_option maxHeartbeats 4000000 in
theorem run_S (b : Nat) (wi hi : Int) (a : Option Addr) (c : Nat) (xs : List Pc) (al : Option Addr) (cl : Nat) (i0 sd : Nat) (q : Pc) (w : World) (hB : BrdOk xs) (hn : xs.length ≤ 60) (hb : BdA w b wi hi a xs.length c) (hx : SlA Pc.enc 5 w a xs) (hq : xs[i0]? = some q) (hs : sd < 4) (hp : SlA Pu.enc 4 w al [⟨q.x, q.y, (sd : Int), 0⟩]) :
    Calls Tryz.prog 104 #[.pointer (some ⟨b, 0, none⟩), .slice al 1 cl] w fun e w' => ∃ g, e = .returned (.slice (some ⟨g, 0, none⟩) xs.length xs.length) ∧ Below w.heap.size w w' ∧ w.heap.size ≤ g ∧ FaA w' g xs.length (Fal (boOf xs) (one1 i0 sd)) := by
  have hi0 : i0 < xs.length := (List.getElem?_eq_some_iff.1 hq).1
  have hmkB := make_any (P := Tryz.prog) 164 4 (.bool false) 1 1 Tryz.underlying164 (by kernel_rfl) xs.length (by omega) (by omega)
  have hmkF := make_any (P := Tryz.prog) 127 141 (.agg #[.int .i64 0, .int .i8 0, .int .i64 0]) 3 24 Tryz.underlying127 (by kernel_rfl) xs.length (by omega) (by omega)
  have hB0 := hB
  obtain ⟨W1, hW1⟩ : ∃ W, W = w.alloc (.cells (madeCells #[.bool false] (xs.length * 1)) 4) := ⟨_, rfl⟩
  obtain ⟨W2, hW2⟩ : ∃ W, W = W1.alloc (.cells (madeCells #[.int .i64 0, .int .i8 0, .int .i64 0] (xs.length * 3)) 141) := ⟨_, rfl⟩
  obtain ⟨W3, hW3⟩ : ∃ W, W = W2.alloc (.cells (madeCells #[.int .i64 0, .int .i8 0, .int .i64 0] (xs.length * 3)) 141) := ⟨_, rfl⟩
  have z1 : W1.heap.size = w.heap.size + 1 := by rw [hW1]; simp
  have z2 : W2.heap.size = w.heap.size + 2 := by rw [hW2, World.size_alloc, z1]
  have B1 : Below w.heap.size w W1 := by rw [hW1]; exact (Below.refl _ _).alloc (Nat.le_refl _) _
  have B2 : Below W1.heap.size W1 W2 := by rw [hW2]; exact (Below.refl _ _).alloc (Nat.le_refl _) _
  have B3 : Below W2.heap.size W2 W3 := by rw [hW3]; exact (Below.refl _ _).alloc (Nat.le_refl _) _
  have hR : RunW w W3 w.heap.size W1.heap.size W2.heap.size xs.length (fun _ => false) (lowE 0) (lowE 0) := by
    have d1 : DnA W1 w.heap.size xs.length (fun _ => false) := by rw [hW1, Nat.mul_one]; exact dn_made _ _ _
    have f1 : FaA W2 W1.heap.size xs.length (fun _ => 0) := by rw [hW2]; exact fa_made _ _ _
    have x1 : FaA W3 W2.heap.size xs.length (fun _ => 0) := by rw [hW3]; exact fa_made _ _ _
    have zd1 : Fz W1 w.heap.size := by rw [hW1]; exact fz_made _ _ _
    have zf1 : Fz W2 W1.heap.size := by rw [hW2]; exact fz_made _ _ _
    have zx1 : Fz W3 W2.heap.size := by rw [hW3]; exact fz_made _ _ _
    have e0 : lowE 0 = fun _ => 0 := by funext y; unfold lowE; rw [if_neg (by omega)]
    rw [e0]
    exact ⟨below_of (below_of B1 B1.size B2) (by omega) B3, (d1.below B2 d1.lt).below B3 (by omega), f1.below B3 f1.lt, x1, (zd1.below B2 d1.lt).below B3 (by omega), zf1.below B3 f1.lt, zx1, by omega⟩
  have HR := hid hR
  have HBd := hid (fun W (hB : Below w.heap.size w W) => hb.below hB hb.lt)
  have HXs := hid (fun W (hB : Below w.heap.size w W) => hx.below hB)
  have HPs := hid (fun W (hB : Below w.heap.size w W) => hp.below hB)
  have HNo := hid (fun W => fallNone_S W)
  obtain ⟨b1, o1, ha, hb1, hc1⟩ := hx.cells (by omega)
  obtain ⟨b2, o2, hal, hb2, hc2⟩ := hp.cells (by simp)
  have hpc := hc2 0 ⟨q.x, q.y, (sd : Int), 0⟩ rfl
  have HPc := hid (fun W (hB : Below w.heap.size w W) => show W.cell? ⟨b2, o2, none⟩ = some (.int .i8 q.x) ∧ W.cell? ⟨b2, o2 + 1, none⟩ = some (.int .i8 q.y) ∧ W.cell? ⟨b2, o2 + 2, none⟩ = some (.int .i8 sd) ∧ W.cell? ⟨b2, o2 + 3, none⟩ = some (.int .i16 0) from ⟨cell_on hB (hpc 0 _ rfl), cell_on hB (hpc 1 _ rfl), cell_on hB (hpc 2 _ rfl), cell_on hB (hpc 3 _ rfl)⟩)
  have HFi := hid (fun W (hB : Below w.heap.size w W) => (find_S b wi hi a c xs q.x q.y W (hb.below hB hb.lt) (hx.below hB)).mono (fun e w' h => (show e = .returned (.int .i64 (i0 : Int)) ∧ Below W.heap.size W w' from ⟨by rw [h.1, place_of hB0.one hq], h.2⟩)))
  have e1 : xs[i0]? = some xs[i0] := List.getElem?_eq_getElem hi0
  have okp := hB.pc q (List.mem_of_getElem? hq)
  have HHi := hid (fun W (hB : Below w.heap.size w W) => hits_S b1 (o1 + i0 * 5) q.k q.t sd W okp.2.2.1 okp.2.2.2.1 (by omega) (Nat.lt_of_lt_of_le hb1 hB.size) (cell_on hB (hc1 i0 q hq 2 _ rfl)) (cell_on hB (hc1 i0 q hq 3 _ rfl)))
  have HCan := hid (bo_can hq sd)
  have HBe := hid (fun (W : World) (dg fg ng : Nat) (h : RunW w W dg fg ng xs.length (fun _ => false) (fun _ => big) (fun _ => big)) => by
    obtain ⟨b0, c2⟩ := h.x.c2 i0 hi0
    exact (better_S 0 sd big ng (i0 * 3) b0 (-1) W hs (by omega) (Nat.le_refl _) (h.x.c0 i0 hi0) (h.x.c1 i0 hi0) c2).mono (fun e w' h => show e = .returned (.bool true) ∧ W = w' from by
      obtain ⟨⟨r, e, h1, h2⟩, h3⟩ := h
      have hb2 : big = 1099511627776 := rfl
      rw [h1 (by omega)] at e
      exact ⟨e, h3⟩))
  have hk2 := hb.c2
  rw [ha] at hk2
  have k2 := hid (fun W (hB : Below w.heap.size w W) => cell_on hB hk2)
  rw [hal]
  have hW1' := hW1
  rw [Nat.mul_one] at hW1'
  have Z1 := hid z1
  have Z2 := hid z2
  clear hR B1 B2 B3 hb hx hp z1 z2
  go_enter Tryz.func104, Tryz.ntmps104
  go_wp2_with fail
  have e1 : w.heap.size + 1 = W1.heap.size := Z1.out.symm
  have e2 : w.heap.size + 1 + 1 = W2.heap.size := Z2.out.symm
  rw [← hW1', ← hW2, ← hW3, e2, e1]
  obtain ⟨dg, hdg⟩ : ∃ g, w.heap.size = g := ⟨_, rfl⟩
  obtain ⟨fg, hfg⟩ : ∃ g, W1.heap.size = g := ⟨_, rfl⟩
  obtain ⟨ng, hng⟩ : ∃ g, W2.heap.size = g := ⟨_, rfl⟩
  rw [hfg, hng, hdg]
  rw [hdg, hfg, hng] at HR
  have HDG := hid hdg
  clear e1 e2 hdg hfg hng Z1 Z2
  clear hW1 hW2 hW3 hW1'
  go_loopw [9] (fun iv wr => ∃ k : Nat, k ≤ xs.length ∧ iv = .int .i64 k ∧ RunW w wr dg fg ng xs.length (fun _ => false) (lowE k) (lowE k)) (fun iv _ => xs.length - (intOf iv).toNat)
  case atStart => exact ⟨0, Nat.zero_le _, rfl, HR.out⟩
  case round =>
    obtain ⟨k, hk, rfl, hW⟩ := hrel
    have HW := hid hW
    by_cases hlt : k < xs.length
    · have hd : decide ((k : Int) < (xs.length : Int)) = true := by rw [decide_eq_true_iff]; omega
      have hki : (k : Int) < (xs.length : Int) := by omega
      clear hW
      go_wp2_with fail
      refine (HNo.out _).mono ?_
      rintro e v1 ⟨rfl, hb1⟩
      have h1 := HW.out.step hb1
      obtain ⟨b0, c2⟩ := h1.f.c2 k hlt
      have c0 := h1.f.c0 k hlt
      have c1 := h1.f.c1 k hlt
      have z0 := h1.zf (k * 3)
      have z1 := h1.zf (k * 3 + 1)
      have z2 := h1.zf (k * 3 + 2)
      have H2 := hid (h1.setF hlt big (-1))
      rw [lowE_up] at H2
      obtain ⟨V2, hV2⟩ : ∃ V, V = set3 v1 fg k big (-1) := ⟨_, rfl⟩
      rw [← hV2] at H2
      have hV2' : V2 = ((v1.setCell ⟨fg, k * 3, none⟩ (.int .i64 (-1))).setCell ⟨fg, k * 3 + 1, none⟩ (.int .i8 0)).setCell ⟨fg, k * 3 + 2, none⟩ (.int .i64 (-1)) := by rw [hV2]; unfold set3; rw [keyT_big, keyS_big]
      clear h1 hb1 hV2
      go_wp2_with fail
      rw [← hV2']
      clear c0 c1 c2 z0 z1 z2 hV2'
      refine (HNo.out _).mono ?_
      rintro e v3 ⟨rfl, hb3⟩
      have h1 := H2.out.step hb3
      obtain ⟨b0, c2⟩ := h1.x.c2 k hlt
      have c0 := h1.x.c0 k hlt
      have c1 := h1.x.c1 k hlt
      have z0 := h1.zx (k * 3)
      have z1 := h1.zx (k * 3 + 1)
      have z2 := h1.zx (k * 3 + 2)
      have H4 := hid (h1.setX hlt big (-1))
      rw [lowE_up] at H4
      unfold set3 at H4
      rw [keyT_big, keyS_big] at H4
      clear h1 hb3
      go_wp2_with fail
      exact ⟨⟨k + 1, by omega, by go_num, H4.out⟩, by simp [intOf]; omega⟩
    · obtain rfl : k = xs.length := by omega
      have hd : decide ((xs.length : Int) < (xs.length : Int)) = false := by rw [decide_eq_false_iff_not]; omega
      have HS := hid (hW.congr (E' := fun _ => big) (F' := fun _ => big) (fun y hy => if_pos hy) (fun y hy => if_pos hy))
      clear hW HW
      go_wp2_with fail
      clear HR
      go_loopw [10] (fun iv wr => (iv = .int .i64 0 ∧ RunW w wr dg fg ng xs.length (fun _ => false) (fun _ => big) (fun _ => big)) ∨ (iv = .int .i64 1 ∧ RunW w wr dg fg ng xs.length (fun _ => false) (oneE (boOf xs) i0 sd) (fun _ => big))) (fun iv _ => 1 - (intOf iv).toNat)
      case atStart => exact Or.inl ⟨rfl, HS.out⟩
      case round =>
        rcases hrel with ⟨rfl, hW⟩ | ⟨rfl, hW⟩
        · have HW := hid hW
          have hp2 := HPc.out wr hW.below
          obtain ⟨p0, p1, p2, p3⟩ := hp2
          clear hW
          go_wp2_with fail
          refine (HFi.out _ HW.out.below).mono ?_
          rintro e v1 ⟨rfl, hb1⟩
          have h1 := hid (HW.out.step hb1)
          obtain ⟨p0, p1, p2, p3⟩ := HPc.out v1 h1.out.below
          clear HW hb1
          go_wp2_with fail
          by_cases hc : (boOf xs).can i0 sd = true
          · have hv : decide (hitsG q.k q.t (sd : Int) ≥ 0) = true := by rw [← hc, HCan.out]
            have BD := h1.out.below.drew
            have BE := (Below.refl v1.heap.size v1).drew
            generalize hitsG q.k q.t (sd : Int) = hv0 at *
            go_region_held3 (fun W => W.cell? ⟨b, 2, none⟩ = some (.slice (some ⟨b1, o1, none⟩) xs.length c) ∧ W.cell? ⟨b2, o2 + 3, none⟩ = some (.int .i16 0))
              (first
                | exact cel2_below hb3' (by with_reducible assumption)
                | exact ⟨k2.out _ BD, p3⟩
                | with_reducible assumption)
              (first
                | (go_at_call 122; refine (HHi.out _ BD).mono ?_; rintro e v2 ⟨rfl, hb3'⟩; have B2 := below_of BD BD.size hb3'; have E2 := below_of BE BE.size hb3')
                | (go_at_call 123; refine (HBe.out _ _ _ _ (h1.out.step E2)).mono ?_; rintro e v3 ⟨rfl, rfl⟩))
            have h2 := h1.out.step E2
            obtain ⟨p0', p1', p2', p3'⟩ := HPc.out v2 h2.below
            obtain ⟨b0, c2⟩ := h2.x.c2 i0 hi0
            have c0 := h2.x.c0 i0 hi0
            have c1 := h2.x.c1 i0 hi0
            have z0 := h2.zx (i0 * 3)
            have z1 := h2.zx (i0 * 3 + 1)
            have z2 := h2.zx (i0 * 3 + 2)
            have HX := hid (((h2.step (Below.refl _ _).drew).setX hi0 sd (-1)).congr (E' := oneE (boOf xs) i0 sd) (F' := fun _ => big) (fun y _ => by unfold upd oneE; by_cases e : y = i0 <;> simp [e, hc]) (fun y _ => rfl))
            unfold set3 at HX
            rw [keyT_sd hs, keyS_sd hs] at HX
            clear h2 hb3' B2 E2 BD BE
            go_wp2_with fail
            go_region
            all_goals (
              go_wp2_with fail
              exact ⟨.inr ⟨rfl, HX.out⟩, by simp [intOf]⟩)
          · have hv : decide (hitsG q.k q.t (sd : Int) ≥ 0) = false := by
              rw [decide_eq_false_iff_not]; intro h; exact hc (by rw [HCan.out]; exact decide_eq_true h)
            have BD := h1.out.below.drew
            have BE := (Below.refl v1.heap.size v1).drew
            have HX := hid (fun (y : Nat) (_ : y < xs.length) => show (fun _ => big : Nat → Nat) y = oneE (boOf xs) i0 sd y by unfold oneE; by_cases e : y = i0 <;> simp [hc])
            generalize hitsG q.k q.t (sd : Int) = hv0 at *
            refine wp_region_held_drew (S := fun W => W.cell? ⟨b, 2, none⟩ = some (.slice (some ⟨b1, o1, none⟩) xs.length c) ∧ W.cell? ⟨b2, o2 + 3, none⟩ = some (.int .i16 0)) (by kernel_rfl) (⟨k2.out _ BD, p3⟩) (fun hH0 => ?_)
            refine wpAnyH_take (i := 0) (oi := ⟨some 63, _, _, _, _, _⟩) (v := ?_) rfl (by kernel_rfl) (by kernel_rfl) (by kernel_rfl) (fun _ _ _ h => h) (Or.inl ⟨by kernel_rfl, ?_⟩) hH0 ?_
            rotate_left 1
            · (intro W hSw; (try dsimp only at hSw); go_simp; try with_reducible rfl)
            try simp only [Act.put, List.setIfInBounds_toArray, List.set_cons_zero, List.set_cons_succ]
            refine wpAnyH_take (i := 1) (oi := ⟨some 64, _, _, _, _, _⟩) (v := ?_) rfl (by kernel_rfl) (by kernel_rfl) (by kernel_rfl) (fun _ _ _ h => h) (Or.inl ⟨by kernel_rfl, ?_⟩) hH0 ?_
            rotate_left 1
            · (intro W hSw; (try dsimp only at hSw); go_simp; try with_reducible rfl)
            try simp only [Act.put, List.setIfInBounds_toArray, List.set_cons_zero, List.set_cons_succ]
            refine wpAnyH_take (i := 2) (oi := ⟨some 65, _, _, _, _, _⟩) (v := ?_) rfl (by kernel_rfl) (by kernel_rfl) (by kernel_rfl) (fun _ _ _ h => h) (Or.inl ⟨by kernel_rfl, ?_⟩) hH0 ?_
            rotate_left 1
            · (intro W hSw; (try dsimp only at hSw); go_simp; try with_reducible rfl)
            try simp only [Act.put, List.setIfInBounds_toArray, List.set_cons_zero, List.set_cons_succ]
            refine wpAnyH_take (i := 3) (oi := ⟨some 66, _, _, _, _, _⟩) (v := ?_) rfl (by kernel_rfl) (by kernel_rfl) (by kernel_rfl) (fun _ _ _ h => h) (Or.inl ⟨by kernel_rfl, ?_⟩) hH0 ?_
            rotate_left 1
            · (intro W hSw; (try dsimp only at hSw); go_simp; try with_reducible rfl)
            try simp only [Act.put, List.setIfInBounds_toArray, List.set_cons_zero, List.set_cons_succ]
            refine wpAnyH_take (i := 4) (oi := ⟨some 67, _, _, _, _, _⟩) (v := ?_) rfl (by kernel_rfl) (by kernel_rfl) (by kernel_rfl) (fun _ _ _ h => h) (Or.inl ⟨by kernel_rfl, ?_⟩) hH0 ?_
            rotate_left 1
            · (intro W hSw; (try dsimp only at hSw); go_simp; try with_reducible rfl)
            try simp only [Act.put, List.setIfInBounds_toArray, List.set_cons_zero, List.set_cons_succ]
            refine wpAnyH_take (i := 5) (oi := ⟨some 68, _, _, _, _, _⟩) (v := ?_) rfl (by kernel_rfl) (by kernel_rfl) (by kernel_rfl) (fun _ _ _ h => h) (Or.inl ⟨by kernel_rfl, ?_⟩) hH0 ?_
            rotate_left 1
            · (intro W hSw; (try dsimp only at hSw); go_simp; try with_reducible rfl)
            try simp only [Act.put, List.setIfInBounds_toArray, List.set_cons_zero, List.set_cons_succ]
            refine wpAnyH_take (i := 6) (oi := ⟨some 69, _, _, _, _, _⟩) (v := ?_) rfl (by kernel_rfl) (by kernel_rfl) (by kernel_rfl) (fun _ _ _ h => h) (Or.inl ⟨by kernel_rfl, ?_⟩) hH0 ?_
            rotate_left 1
            · (intro W hSw; (try dsimp only at hSw); go_simp; try with_reducible rfl)
            try simp only [Act.put, List.setIfInBounds_toArray, List.set_cons_zero, List.set_cons_succ]
            refine wpAnyH_ready (rs := [7]) (by kernel_rfl) (by simp) ?_
            refine AllReadyH.cons rfl (fun K hK => ?_) AllReadyH.nil
            go_simp
            go_at_call 122
            refine (HHi.out _ BD).mono ?_
            rintro e v2 ⟨rfl, hb3'⟩
            have E2 := below_of BE BE.size hb3'
            refine hK.out _ _ (cel2_below hb3' hH0) (fun hH1 => ?_)
            clear hK K
            try simp only [Act.put, List.setIfInBounds_toArray, List.set_cons_zero, List.set_cons_succ]
            refine wpAnyH_take (i := 8) (oi := ⟨some 71, _, _, _, _, _⟩) (v := ?_) rfl (by kernel_rfl) (by kernel_rfl) (by kernel_rfl) (fun _ _ _ h => h) (Or.inl ⟨by kernel_rfl, ?_⟩) hH1 ?_
            rotate_left 1
            · (intro W hSw; (try dsimp only at hSw); go_simp; try with_reducible rfl)
            try simp only [Act.put, List.setIfInBounds_toArray, List.set_cons_zero, List.set_cons_succ]
            refine wpAnyH_take (i := 9) (oi := ⟨some 72, _, _, _, _, _⟩) (v := ?_) rfl (by kernel_rfl) (by kernel_rfl) (by kernel_rfl) (fun _ _ _ h => h) (Or.inl ⟨by kernel_rfl, ?_⟩) hH1 ?_
            rotate_left 1
            · (intro W hSw; (try dsimp only at hSw); go_simp; try with_reducible rfl)
            try simp only [Act.put, List.setIfInBounds_toArray, List.set_cons_zero, List.set_cons_succ]
            refine wpAnyH_take (i := 10) (oi := ⟨some 73, _, _, _, _, _⟩) (v := undef) rfl (by kernel_rfl) (by kernel_rfl) (by kernel_rfl) (fun _ _ _ h => h) (Or.inr ⟨by kernel_rfl, rfl⟩) hH1 ?_
            try simp only [Act.put, List.setIfInBounds_toArray, List.set_cons_zero, List.set_cons_succ]
            refine wpAnyH_take (i := 11) (oi := ⟨some 74, _, _, _, _, _⟩) (v := undef) rfl (by kernel_rfl) (by kernel_rfl) (by kernel_rfl) (fun _ _ _ h => h) (Or.inr ⟨by kernel_rfl, rfl⟩) hH1 ?_
            try simp only [Act.put, List.setIfInBounds_toArray, List.set_cons_zero, List.set_cons_succ]
            refine wpAnyH_take (i := 12) (oi := ⟨some 75, _, _, _, _, _⟩) (v := undef) rfl (by kernel_rfl) (by kernel_rfl) (by kernel_rfl) (fun _ _ _ h => h) (Or.inr ⟨by kernel_rfl, rfl⟩) hH1 ?_
            try simp only [Act.put, List.setIfInBounds_toArray, List.set_cons_zero, List.set_cons_succ]
            refine wpAnyH_take (i := 13) (oi := ⟨some 76, _, _, _, _, _⟩) (v := undef) rfl (by kernel_rfl) (by kernel_rfl) (by kernel_rfl) (fun _ _ _ h => h) (Or.inr ⟨by kernel_rfl, rfl⟩) hH1 ?_
            try simp only [Act.put, List.setIfInBounds_toArray, List.set_cons_zero, List.set_cons_succ]
            refine wpAnyH_take (i := 14) (oi := ⟨some 77, _, _, _, _, _⟩) (v := undef) rfl (by kernel_rfl) (by kernel_rfl) (by kernel_rfl) (fun _ _ _ h => h) (Or.inr ⟨by kernel_rfl, rfl⟩) hH1 ?_
            try simp only [Act.put, List.setIfInBounds_toArray, List.set_cons_zero, List.set_cons_succ]
            refine wpAnyH_take (i := 15) (oi := ⟨some 78, _, _, _, _, _⟩) (v := undef) rfl (by kernel_rfl) (by kernel_rfl) (by kernel_rfl) (fun _ _ _ h => h) (Or.inr ⟨by kernel_rfl, rfl⟩) hH1 ?_
            try simp only [Act.put, List.setIfInBounds_toArray, List.set_cons_zero, List.set_cons_succ]
            refine wpAnyH_take (i := 16) (oi := ⟨some 79, _, _, _, _, _⟩) (v := undef) rfl (by kernel_rfl) (by kernel_rfl) (by kernel_rfl) (fun _ _ _ h => h) (Or.inr ⟨by kernel_rfl, rfl⟩) hH1 ?_
            try simp only [Act.put, List.setIfInBounds_toArray, List.set_cons_zero, List.set_cons_succ]
            refine wpAnyH_take (i := 17) (oi := ⟨some 80, _, _, _, _, _⟩) (v := undef) rfl (by kernel_rfl) (by kernel_rfl) (by kernel_rfl) (fun _ _ _ h => h) (Or.inr ⟨by kernel_rfl, rfl⟩) hH1 ?_
            try simp only [Act.put, List.setIfInBounds_toArray, List.set_cons_zero, List.set_cons_succ]
            refine wpAnyH_take (i := 18) (oi := ⟨some 81, _, _, _, _, _⟩) (v := undef) rfl (by kernel_rfl) (by kernel_rfl) (by kernel_rfl) (fun _ _ _ h => h) (Or.inr ⟨by kernel_rfl, rfl⟩) hH1 ?_
            try simp only [Act.put, List.setIfInBounds_toArray, List.set_cons_zero, List.set_cons_succ]
            refine wpAnyH_take (i := 19) (oi := ⟨some 82, _, _, _, _, _⟩) (v := undef) rfl (by kernel_rfl) (by kernel_rfl) (by kernel_rfl) (fun _ _ _ h => h) (Or.inr ⟨by kernel_rfl, rfl⟩) hH1 ?_
            try simp only [Act.put, List.setIfInBounds_toArray, List.set_cons_zero, List.set_cons_succ]
            refine wpAnyH_take (i := 20) (oi := ⟨some 83, _, _, _, _, _⟩) (v := undef) rfl (by kernel_rfl) (by kernel_rfl) (by kernel_rfl) (fun _ _ _ h => h) (Or.inr ⟨by kernel_rfl, rfl⟩) hH1 ?_
            try simp only [Act.put, List.setIfInBounds_toArray, List.set_cons_zero, List.set_cons_succ]
            refine wpAnyH_take (i := 21) (oi := ⟨some 84, _, _, _, _, _⟩) (v := ?_) rfl (by kernel_rfl) (by kernel_rfl) (by kernel_rfl) (fun _ _ _ h => h) (Or.inl ⟨by kernel_rfl, ?_⟩) hH1 ?_
            rotate_left 1
            · (intro W hSw; (try dsimp only at hSw); go_simp; try with_reducible rfl)
            try simp only [Act.put, List.setIfInBounds_toArray, List.set_cons_zero, List.set_cons_succ]
            refine wpAnyH_done (by kernel_rfl) ?_ _
            go_wp2_with fail
            exact ⟨.inr ⟨rfl, (h1.out.step E2).congr HX.out (fun _ _ => rfl)⟩, by simp [intOf]⟩
        · have HS3 := hid (runL_start (hs := hs) (hi0 := hi0) hW)
          clear hW HS HBe HFi HHi HCan HPc
          go_wp2_with fail
          go_loopw [13] (fun _ wr => RunL w wr dg fg ng xs i0 sd) (fun _ wr => xs.length - cntW wr dg xs.length)
          case atStart => exact HS3.out
          case round =>
            obtain ⟨D, E, hW, hF, hT⟩ := hrel
            obtain ⟨V, hV⟩ : ∃ V, V = wr := ⟨_, rfl⟩
            subst hV
            have HW := hid hW
            have HF := hid hF
            have HT := hid hT
            have Hbig := hid (fun y => show E y ≤ big by rw [hF.eq y]; exact (fall_tk (bo_ok hB) (one1_le hs)).le _ _)
            clear hW hF hT HS3
            go_wp2_with fail
            go_loopw [13, 14] (fun av iv wr => ∃ k : Nat, k ≤ xs.length ∧ iv = .int .i64 k ∧ av = .int .i64 (atV (pickR D E k)) ∧ RunW w wr dg fg ng xs.length D E (fun y => if D y = true then E y else big)) (fun _ iv _ => xs.length - (intOf iv).toNat)
            case atStart => exact ⟨0, Nat.zero_le _, rfl, rfl, HW.out⟩
            case round =>
              obtain ⟨k, hk, rfl, rfl, hW⟩ := hrel
              have H4 := hid hW
              by_cases hlt : k < xs.length
              · have hd : decide ((k : Int) < (xs.length : Int)) = true := by rw [decide_eq_true_iff]; omega
                have hki : (k : Int) < (xs.length : Int) := by omega
                clear hW
                have c0 := H4.out.d.c k hlt
                have c1 := H4.out.x.c0 k hlt
                have bE := Hbig.out
                have SU := hid (pick_succ D E k)
                have PS := hid (fun x (h : pickR D E k = some x) => pickR_some h)
                cases hDk : D k with
                | true =>
                  rw [hDk] at c0
                  have HN := hid (SU.out.1 hDk)
                  generalize hav : atV (pickR D E k) = av at *
                  have HA := hid hav
                  clear hav
                  clear SU PS hDk c1
                  go_wp2_with fail
                  go_quiet (fail)
                  (try clear heq)
                  (try clear hg)
                  go_wp2_with fail
                  exact ⟨⟨k + 1, by omega, by go_num, by rw [HN.out, HA.out], H4.out.step (below_drewN (Below.refl _ _) _)⟩, by simp [intOf]; omega⟩
                | false =>
                  rw [hDk] at c0
                  by_cases hEk : E k < big
                  · rw [keyT_lt hEk] at c1
                    obtain ⟨tk, htk⟩ : ∃ t, E k / 4 = t := ⟨_, rfl⟩
                    rw [htk] at c1
                    have e1 : decide ((tk : Int) ≥ 0) = true := by rw [decide_eq_true_iff]; omega
                    cases hp : pickR D E k with
                    | none =>
                      have HN := hid (SU.out.2.1 hDk hEk hp)
                      clear SU PS hDk hEk hp htk
                      unfold atV
                      go_wp2_with fail
                      go_quiet (fail)
                      (try clear heq)
                      (try clear hg)
                      go_wp2_with fail
                      exact ⟨⟨k + 1, by omega, by go_num, by rw [HN.out], H4.out.step (below_drewN (Below.refl _ _) _)⟩, by simp [intOf]; omega⟩
                    | some x =>
                      obtain ⟨hx1, hx2, hx3, _⟩ := PS.out x hp
                      have c2 := H4.out.x.c0 x (by omega)
                      rw [keyT_lt hx3] at c2
                      have hxi : (x : Int) < (xs.length : Int) := by omega
                      have hx0 : ¬ (x : Int) < 0 := by omega
                      have hx9 : decide ((x : Int) < 0) = false := decide_eq_false hx0
                      by_cases hlt2 : E k / 4 < E x / 4
                      · have HN := hid ((SU.out.2.2.1 x hDk hp).1 ⟨hEk, hlt2⟩)
                        obtain ⟨tx, htx⟩ : ∃ t, E x / 4 = t := ⟨_, rfl⟩
                        rw [htk, htx] at hlt2
                        rw [htx] at c2
                        clear SU PS hDk hEk hp htk htx hx2 hx3
                        have e2 : decide ((tk : Int) < (tx : Int)) = true := by rw [decide_eq_true_iff]; omega
                        have e3 : decide (tk < tx) = true := decide_eq_true hlt2
                        unfold atV
                        go_wp2_with fail
                        go_quiet (fail)
                        (try clear heq)
                        (try clear hg)
                        go_wp2_with fail
                        exact ⟨⟨k + 1, by omega, by go_num, by rw [HN.out], H4.out.step (below_drewN (Below.refl _ _) _)⟩, by simp [intOf]; omega⟩
                      · have HN := hid ((SU.out.2.2.1 x hDk hp).2 (fun h => hlt2 h.2))
                        obtain ⟨tx, htx⟩ : ∃ t, E x / 4 = t := ⟨_, rfl⟩
                        rw [htk, htx] at hlt2
                        rw [htx] at c2
                        clear SU PS hDk hEk hp htk htx hx2 hx3
                        have e2 : decide ((tk : Int) < (tx : Int)) = false := by rw [decide_eq_false_iff_not]; omega
                        have e3 : decide (tk < tx) = false := decide_eq_false hlt2
                        unfold atV
                        go_wp2_with fail
                        go_quiet (fail)
                        (try clear heq)
                        (try clear hg)
                        go_wp2_with fail
                        exact ⟨⟨k + 1, by omega, by go_num, by rw [HN.out], H4.out.step (below_drewN (Below.refl _ _) _)⟩, by simp [intOf]; omega⟩
                  · have HN := hid (SU.out.2.2.2 hEk)
                    have e9 : E k = big := by have := bE k; omega
                    rw [e9, keyT_big] at c1
                    generalize hav : atV (pickR D E k) = av at *
                    have HA := hid hav
                    clear hav
                    clear SU PS hDk hEk e9 bE
                    go_wp2_with fail
                    go_quiet (fail)
                    (try clear heq)
                    (try clear hg)
                    go_wp2_with fail
                    exact ⟨⟨k + 1, by omega, by go_num, by rw [HN.out, HA.out], H4.out.step (below_drewN (Below.refl _ _) _)⟩, by simp [intOf]; omega⟩
              · obtain rfl : k = xs.length := by omega
                have hd : decide ((xs.length : Int) < (xs.length : Int)) = false := by rw [decide_eq_false_iff_not]; omega
                clear hW
                cases hp : pickR D E xs.length with
                | none =>
                  unfold atV
                  go_wp2_with fail
                  refine bodyPost_ret (v := .slice (some ⟨fg, 0, none⟩) xs.length xs.length) (by simp [results, Tryz.results104, go_sem]) rfl ?_
                  have hfx := fun y => HF.out.done (fall_tk (bo_ok hB) (one1_le hs)) (fun z hz => run_end (B := boOf xs) HF.out Hbig.out (fun y => pickR_none hp y) rfl z hz) y
                  exact ⟨fg, rfl, H4.out.below, H4.out.nz.2.2.2.2.1, H4.out.f.congr (fun y hy => by
                    cases hDy : D y with
                    | true => rw [if_pos rfl]; exact hfx y
                    | false =>
                      rw [if_neg (by simp), ← show _ = Fal (boOf xs) (one1 i0 sd) y from hfx y]
                      have := pickR_none hp y hy hDy
                      have := Hbig.out y
                      omega)⟩
                | some x =>
                  obtain ⟨hx1, hx2, hx3, hx4⟩ := pickR_some hp
                  have HP := hid (And.intro hx2 (And.intro hx3 hx4))
                  have hxi : (x : Int) < (xs.length : Int) := by omega
                  have hx0 : ¬ (x : Int) < 0 := by omega
                  have hx9 : decide ((x : Int) < 0) = false := decide_eq_false hx0
                  clear hx2 hx3 hx4 hp
                  unfold atV
                  have h4 := H4.out
                  have d0 := h4.d.c x hx1
                  obtain ⟨y, y2⟩ := h4.x.c2 x hx1
                  have y0 := h4.x.c0 x hx1
                  have y1 := h4.x.c1 x hx1
                  obtain ⟨f, f2⟩ := h4.f.c2 x hx1
                  have f0 := h4.f.c0 x hx1
                  have f1 := h4.f.c1 x hx1
                  have zd := h4.zd x
                  have z0 := h4.zf (x * 3)
                  have z1 := h4.zf (x * 3 + 1)
                  have z2 := h4.zf (x * 3 + 2)
                  have nz := h4.nz
                  have H5 := hid ((h4.setD hx1).setF hx1 (E x) y)
                  unfold set3 at H5
                  have e5 : xs[x]? = some xs[x] := List.getElem?_eq_getElem hx1
                  obtain ⟨p, hp⟩ : ∃ p, xs[x] = p := ⟨_, rfl⟩
                  rw [hp] at e5
                  have okx := hB.pc p (List.mem_of_getElem? e5)
                  have hsx : E x % 4 < 4 := Nat.mod_lt _ (by omega)
                  have HHx := hid (fun W (hB : Below w.heap.size w W) => hits_S b1 (o1 + x * 5) p.k p.t (E x % 4 : Nat) W okx.2.2.1 okx.2.2.2.1 (by omega) (Nat.lt_of_lt_of_le hb1 hB.size) (cell_on hB (hc1 x p e5 2 _ rfl)) (cell_on hB (hc1 x p e5 3 _ rfl)))
                  have HDx := hid (fun W (hB : Below w.heap.size w W) => cell_on hB (hc1 x p e5 4 _ rfl))
                  have HNe := hid (fun s (hs : s < 4) W (hB2 : Below w.heap.size w W) => near_S b wi hi a c xs x s W (HBd.out W hB2) (HXs.out W hB2) hn hx1 hs (fun p hp => ⟨(hB.pc p hp).1, (hB.pc p hp).2.1⟩))
                  have hcan := fall_can hs (HF.out.eq x) HP.out.2.1
                  rw [bo_can e5, decide_eq_true_iff] at hcan
                  have hlt16 := hitsG_lt (k := p.k) (s := (E x % 4 : Nat)) okx.2.2.2.1
                  have Hhit := hid (fun t => bo_hit e5 (E x % 4) t)
                  have Hd := hid (bo_d e5)
                  have HtE := hid (keyT_lt HP.out.2.1)
                  rw [keyT_lt HP.out.2.1] at y0
                  rw [keyS_lt HP.out.2.1] at y1
                  rw [keyT_lt HP.out.2.1, keyS_lt HP.out.2.1] at H5
                  have htx := HT.out x HP.out.2.1
                  have hcb := cntB_le D xs.length
                  obtain ⟨d, hd⟩ : ∃ d : Nat, p.d = d := ⟨p.d.toNat, by omega⟩
                  have hd9 : 1 ≤ d ∧ d ≤ 9 := by omega
                  rw [hd, Int.toNat_natCast] at Hd
                  obtain ⟨V5, hV5⟩ : ∃ V, V = (((wr.setCell ⟨dg, x, none⟩ (.bool true)).setCell ⟨fg, x * 3, none⟩ (.int .i64 ((E x / 4 : Nat) : Int))).setCell ⟨fg, x * 3 + 1, none⟩ (.int .i8 ((E x % 4 : Nat) : Int))).setCell ⟨fg, x * 3 + 2, none⟩ (.int .i64 y) := ⟨_, rfl⟩
                  rw [← hV5] at H5
                  obtain ⟨tx, htx2⟩ : ∃ t, E x / 4 = t := ⟨_, rfl⟩
                  obtain ⟨sx, hsx2⟩ : ∃ t, E x % 4 = t := ⟨_, rfl⟩
                  rw [htx2] at htx y0 hV5
                  rw [hsx2] at hsx HHx hcan hlt16 Hhit y1 hV5
                  have HTX := hid htx2
                  have HSX := hid hsx2
                  have HPD := hid hd
                  generalize hitsG p.k p.t (sx : Int) = bits at *
                  clear h4 htx2 hsx2 hd e5 okx hp
                  go_wp2_with fail
                  rw [← hV5]
                  clear hV5
                  have k5 := k2.out V5 H5.out.below
                  have f5 : V5.cell? ⟨fg, x * 3 + 1, none⟩ = some (.int .i8 (sx : Int)) := by
                    have := H5.out.f.c1 x hx1
                    rwa [upd_at, keyS_lt HP.out.2.1, HSX.out] at this
                  have ws : IntKind.i64.wrap (sx : Int) = sx := IntWalk.i64_in _ (by omega)
                  have BD := H5.out.below.drew
                  have BE := (Below.refl V5.heap.size V5).drew
                  go_region_held3 (fun W => W.cell? ⟨b, 2, none⟩ = some (.slice (some ⟨b1, o1, none⟩) xs.length c) ∧ W.cell? ⟨fg, x * 3 + 1, none⟩ = some (.int .i8 (sx : Int)))
                    (first
                      | exact cel2_below hb3' (by with_reducible assumption)
                      | exact ⟨k5, f5⟩
                      | with_reducible assumption)
                    ((go_at_call 122; refine (HHx.out _ BD).mono ?_; rintro e v6 ⟨rfl, hb3'⟩; have E6 := below_of BE BE.size hb3'))
                  have H6 := hid (H5.out.step E6)
                  clear k5 f5 H5 E6 BD BE hb3'
                  have k6 := k2.out v6 H6.out.below
                  have x6 : v6.cell? ⟨b1, o1 + x * 5 + 4, none⟩ = some (.int .i8 (d : Int)) := by rw [← HPD.out]; exact HDx.out _ H6.out.below
                  have f6 : v6.cell? ⟨fg, x * 3, none⟩ = some (.int .i64 (tx : Int)) := by
                    have := H6.out.f.c0 x hx1
                    rwa [upd_at, keyT_lt HP.out.2.1, HTX.out] at this
                  have wd : IntKind.i64.wrap (d : Int) = d := IntWalk.i64_in _ (by omega)
                  have wt : IntKind.i64.wrap ((tx : Int) + (d : Int)) = (tx : Int) + (d : Int) := IntWalk.i64_in _ (by omega)
                  go_wp2_with fail
                  go_quiet (fail)
                  (try clear heq)
                  (try clear hg)
                  go_wp2_with fail
                  have H7 := hid (H6.out.step (below_drewN (Below.refl _ _) nq))
                  obtain ⟨V7, hV7⟩ : ∃ V, V = v6.drewN nq := ⟨_, rfl⟩
                  rw [← hV7] at H7 ⊢
                  clear hV7 H6 k6 x6 f6
                  have HTb := hid (fun s y => show tellsR (boOf xs) (dnU D x) x (E x) E s y ≤ big by
                    rw [tells_at HP.out.2.1 Hbig.out]
                    have := Hbig.out y
                    split <;> omega)
                  have hb22 : big = 1099511627776 := rfl
                  have HB2 := hid hb22
                  clear hb22
                  have e0 : tellsR (boOf xs) (dnU D x) x (E x) E 0 = E := rfl
                  go_loopw [17] (fun sv wr => ∃ s : Nat, s ≤ 4 ∧ sv = .int .i64 s ∧ RunW w wr dg fg ng xs.length (dnU D x) (tellsR (boOf xs) (dnU D x) x (E x) E s) (upd (fun y => if D y = true then E y else big) x (E x))) (fun sv _ => 4 - (intOf sv).toNat)
                  case atStart => exact ⟨0, Nat.zero_le _, rfl, by rw [e0]; exact H7.out⟩
                  case round =>
                    obtain ⟨s, hs4, rfl, hW⟩ := hrel
                    have HW9 := hid hW
                    clear hW e0
                    by_cases hlt : s < 4
                    · have hd4 : decide ((s : Int) < 4) = true := by rw [decide_eq_true_iff]; omega
                      have hd9' := hd9
                      have hop := opp_rem hlt
                      have hop4 : opp s < 4 := opp_lt s
                      have wop : IntKind.i8.wrap ((opp s : Nat) : Int) = ((opp s : Nat) : Int) := IntWalk.i8_in _ (by omega)
                      have HBT := hid (bit_tmod hcan s)
                      have HH1 := hid (show (boOf xs).hit x sx s = bitI bits s by rw [Hhit.out, decide_eq_true hcan, Bool.true_and])
                      have HTN := hid (tell_cases (boOf xs) (dnU D x) x (E x) (tellsR (boOf xs) (dnU D x) x (E x) E s) s)
                      rw [HSX.out, HTX.out, Hd.out] at HTN
                      have HTS := hid (show tellsR (boOf xs) (dnU D x) x (E x) E (s + 1) = tellR (boOf xs) (dnU D x) x (E x) (tellsR (boOf xs) (dnU D x) x (E x) E s) s from rfl)
                      generalize bitI bits s = bt at *
                      cases bt with
                      | false =>
                        have hbt : ((bits / 2 ^ s).tmod 2 == 0) = true := by rw [HBT.out]; rfl
                        have HN := hid (HTS.out.trans (HTN.out.1 HH1.out))
                        go_wp2_with fail
                        exact ⟨⟨s + 1, by omega, by go_num, by rw [HN.out]; exact HW9.out⟩, by simp [intOf]; omega⟩
                      | true =>
                        have hbt : ((bits / 2 ^ s).tmod 2 == 0) = false := by rw [HBT.out]; rfl
                        rcases bo_near_cases xs x s with ⟨k, ek, nk, hk⟩ | ⟨hng, nk⟩
                        · have hki : (k : Int) < (xs.length : Int) := by omega
                          have hk0 : decide ((k : Int) ≥ 0) = true := by rw [decide_eq_true_iff]; omega
                          have HNk := hid (HNe.out s hlt)
                          rw [ek] at HNk
                          cases hdk : dnU D x k with
                          | true =>
                            have HN := hid (HTS.out.trans (HTN.out.2.2.1 k nk hdk))
                            clear HTN HTS HH1 HBT Hhit
                            go_wp2_with fail
                            refine (HNk.out _ HW9.out.below).mono ?_
                            rintro e v8 ⟨rfl, hb8⟩
                            have H8 := hid (HW9.out.step hb8)
                            have c8 := H8.out.d.c k hk
                            rw [hdk] at c8
                            clear hb8
                            go_wp2_with fail
                            exact ⟨⟨s + 1, by omega, by go_num, by rw [HN.out]; exact H8.out⟩, by simp [intOf]; omega⟩
                          | false =>
                            have e6 : xs[k]? = some xs[k] := List.getElem?_eq_getElem hk
                            obtain ⟨p2, hp2⟩ : ∃ p, xs[k] = p := ⟨_, rfl⟩
                            rw [hp2] at e6
                            have okk := hB.pc p2 (List.mem_of_getElem? e6)
                            have HHk := hid (fun W (hB : Below w.heap.size w W) => hits_S b1 (o1 + k * 5) p2.k p2.t (opp s : Nat) W okk.2.2.1 okk.2.2.2.1 (by omega) (Nat.lt_of_lt_of_le hb1 hB.size) (cell_on hB (hc1 k p2 e6 2 _ rfl)) (cell_on hB (hc1 k p2 e6 3 _ rfl)))
                            have HCk := hid (bo_can e6 (opp s))
                            cases hck : (boOf xs).can k (opp s) with
                            | false =>
                              have HN := hid (HTS.out.trans (HTN.out.2.2.2.1 k nk hck))
                              have hv : decide (hitsG p2.k p2.t ((opp s : Nat) : Int) ≥ 0) = false := by rw [← hck, HCk.out]
                              generalize hitsG p2.k p2.t ((opp s : Nat) : Int) = bits2 at *
                              clear HTN HTS HH1 HBT Hhit HCk okk e6 hp2
                              go_wp2_with fail
                              refine (HNk.out _ HW9.out.below).mono ?_
                              rintro e v8 ⟨rfl, hb8⟩
                              have H8 := hid (HW9.out.step hb8)
                              have c8 := H8.out.d.c k hk
                              rw [hdk] at c8
                              have k8 := k2.out _ H8.out.below
                              clear hb8
                              go_wp2_with fail
                              refine (HHk.out _ H8.out.below).mono ?_
                              rintro e v9 ⟨rfl, hb9⟩
                              have H9 := hid (H8.out.step hb9)
                              clear hb9
                              go_wp2_with fail
                              exact ⟨⟨s + 1, by omega, by go_num, by rw [HN.out]; exact H9.out⟩, by simp [intOf]; omega⟩
                            | true =>
                              have HN := hid (HTS.out.trans (HTN.out.2.2.2.2 k nk HH1.out hdk hck))
                              have hv : decide (hitsG p2.k p2.t ((opp s : Nat) : Int) ≥ 0) = true := by rw [← hck, HCk.out]
                              have hTb := HTb.out s k
                              have HBk := hid (fun (W : World) (h : RunW w W dg fg ng xs.length (dnU D x) (tellsR (boOf xs) (dnU D x) x (E x) E s) (upd (fun y => if D y = true then E y else big) x (E x))) => by
                                obtain ⟨b0, c2⟩ := h.x.c2 k hk
                                exact (show Calls Tryz.prog 123 #[.int .i64 ((tx : Int) + (d : Int)), .int .i64 ((opp s : Nat) : Int), .int .i64 (x : Int), .pointer (some ⟨ng, k * 3, none⟩)] W fun e w' => BetR (4 * (tx + d) + opp s) (tellsR (boOf xs) (dnU D x) x (E x) E s k) e ∧ W = w' from better_S (tx + d) (opp s) (tellsR (boOf xs) (dnU D x) x (E x) E s k) ng (k * 3) b0 x W hop4 (by omega) hTb (h.x.c0 k hk) (h.x.c1 k hk) c2))
                              generalize hitsG p2.k p2.t ((opp s : Nat) : Int) = bits2 at *
                              clear HTN HTS HH1 HBT Hhit HCk okk e6 hp2 hTb
                              go_wp2_with fail
                              refine (HNk.out _ HW9.out.below).mono ?_
                              rintro e v8 ⟨rfl, hb8⟩
                              have H8 := hid (HW9.out.step hb8)
                              have c8 := H8.out.d.c k hk
                              rw [hdk] at c8
                              have k8 := k2.out _ H8.out.below
                              clear hb8
                              go_wp2_with fail
                              refine (HHk.out _ H8.out.below).mono ?_
                              rintro e v9 ⟨rfl, hb9⟩
                              have H9 := hid (H8.out.step hb9)
                              clear hb9 c8 k8
                              go_wp2_with fail
                              refine (HBk.out _ H9.out).mono ?_
                              rintro e v10 ⟨⟨r, rfl, hr1, hr2⟩, rfl⟩
                              cases r with
                              | false =>
                                have hTk : tellsR (boOf xs) (dnU D x) x (E x) E s k ≤ 4 * (tx + d) + opp s := by
                                  rcases Nat.lt_or_ge (4 * (tx + d) + opp s) (tellsR (boOf xs) (dnU D x) x (E x) E s k) with h | h
                                  · exact absurd (hr1 h) (by simp)
                                  · exact h
                                have HN2 := hid (HN.out.trans (by rw [Nat.min_eq_left hTk, upd_self]))
                                clear hr1 hr2 hTk HN
                                go_wp2_with fail
                                exact ⟨⟨s + 1, by omega, by go_num, by rw [HN2.out]; exact H9.out⟩, by simp [intOf]; omega⟩
                              | true =>
                                have hTk : 4 * (tx + d) + opp s ≤ tellsR (boOf xs) (dnU D x) x (E x) E s k := by
                                  rcases Nat.lt_or_ge (tellsR (boOf xs) (dnU D x) x (E x) E s k) (4 * (tx + d) + opp s) with h | h
                                  · exact absurd (hr2 h) (by simp)
                                  · exact h
                                have HN2 := hid (HN.out.trans (by rw [Nat.min_eq_right hTk]))
                                clear hr1 hr2 hTk HN
                                have h9 := H9.out
                                obtain ⟨b0, c2⟩ := h9.x.c2 k hk
                                have c0 := h9.x.c0 k hk
                                have c1 := h9.x.c1 k hk
                                have z0 := h9.zx (k * 3)
                                have z1 := h9.zx (k * 3 + 1)
                                have z2 := h9.zx (k * 3 + 2)
                                have HX := hid (h9.setX hk (4 * (tx + d) + opp s) x)
                                unfold set3 at HX
                                have hKb : 4 * (tx + d) + opp s < big := by have := HB2.out; omega
                                rw [keyT_lt hKb, keyS_lt hKb, show (4 * (tx + d) + opp s) / 4 = tx + d by omega, show (4 * (tx + d) + opp s) % 4 = opp s by omega] at HX
                                clear h9
                                go_wp2_with fail
                                exact ⟨⟨s + 1, by omega, by go_num, by rw [HN2.out]; exact HX.out⟩, by simp [intOf]; omega⟩
                        · have hk0 : decide (nearI xs x s ≥ 0) = false := by rw [decide_eq_false_iff_not]; omega
                          have HNk := hid (HNe.out s hlt)
                          have HN := hid (HTS.out.trans (HTN.out.2.1 nk))
                          generalize nearI xs x s = kk at *
                          clear HTN HTS HH1 HBT Hhit
                          go_wp2_with fail
                          refine (HNk.out _ HW9.out.below).mono ?_
                          rintro e v8 ⟨rfl, hb8⟩
                          have H8 := hid (HW9.out.step hb8)
                          clear hb8
                          go_wp2_with fail
                          exact ⟨⟨s + 1, by omega, by go_num, by rw [HN.out]; exact H8.out⟩, by simp [intOf]; omega⟩
                    · obtain rfl : s = 4 := by omega
                      go_wp2_with fail
                      have hcd : cntB (dnU D x) xs.length = cntB D xs.length + 1 := cntB_add HP.out.1 _ hx1
                      have hc9 := cntB_le (dnU D x) xs.length
                      have hE4 := tells_all (bo_ok hB) HF.out Hbig.out hx1 HP.out.1 HP.out.2.1
                      have hmin : ∀ y, D y = false → E x / 4 ≤ E y / 4 := fun y hy => by
                        by_cases h1 : y < xs.length
                        · exact HP.out.2.2 y h1 hy
                        · have h2 := run_end (B := boOf xs) (n := xs.length) HF.out Hbig.out
                          have h3 : ¬ E y < big := by
                            have h4 := HF.out.eq y
                            unfold fallF at h4
                            rw [if_neg (show ¬ y < (boOf xs).n from h1)] at h4
                            omega
                          have := HP.out.2.1
                          omega
                      have hF2 := HF.out.fall (bo_ok hB) (one1_le hs) HP.out.1 HP.out.2.1 hmin
                      refine ⟨⟨dnU D x, _, HW9.out.congr (fun y hy => congrFun hE4 y) (fun y hy => ?_), hF2, fun y hy => ?_⟩, ?_⟩
                      · exact run_row HF.out HP.out.1 y (bo_ok hB) HP.out.2.1
                      · have hm : min (E y) (leadK (boOf xs) x (E x) y) < big := hy
                        show min (E y) (leadK (boOf xs) x (E x) y) / 4 ≤ _
                        have h1 := leadK_tick (boOf xs) (bo_ok hB) x (E x) y
                        have h2 := HT.out y
                        have h3 := HT.out x HP.out.2.1
                        omega
                      · rw [cntW_eq xs.length HW9.out.d.c, cntW_eq xs.length HW.out.d.c, hcd]
                        have := cntB_le (dnU D x) xs.length
                        omega
end Go.Proofs.YthhfndifcdiomaaGreat
