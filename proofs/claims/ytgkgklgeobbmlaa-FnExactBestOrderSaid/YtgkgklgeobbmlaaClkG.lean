/-
  The reference's clock: whether a piece hits its neighbour; the earliest hit that follows from the others.
  The reference's clock: the earliest hit that follows from the others.
  The reference's clock: the latest hit that follows from the others.
  The reference's clock: one pass that finds better earliest hits.
  The reference's clock: one pass that finds better latest hits.
  Conditions: the pieces, pushes and spans are right; what is finite is at most 4000. the pieces, pushes and spans are right.
-/
import Derived.Test.YtgkgklgeobbmlaaClkA
import Derived.BigQuiet
namespace Go.Proofs.Ytgkgklgeobbmlaa
open Go.RowKit
set_option linter.unusedSimpArgs false
set_option linter.unusedVariables false

theorem and1_i64 (x : Int) (h0 : 0 ≤ x) (h1 : x ≤ 15) : bits BinOp.and IntKind.i64 x 1 = x % 2 := by
  have : x = 0 ∨ x = 1 ∨ x = 2 ∨ x = 3 ∨ x = 4 ∨ x = 5 ∨ x = 6 ∨ x = 7 ∨ x = 8 ∨ x = 9 ∨ x = 10 ∨ x = 11 ∨ x = 12 ∨ x = 13 ∨ x = 14 ∨ x = 15 := by omega
  rcases this with rfl | rfl | rfl | rfl | rfl | rfl | rfl | rfl | rfl | rfl | rfl | rfl | rfl | rfl | rfl | rfl <;> first | rfl | decide
theorem hitsG_in (k t s : Int) : -1 ≤ hitsG k t s ∧ hitsG k t s ≤ 32 := by
  unfold hitsG
  split
  · omega
  · have := rotTo_in (tab k ((s + 4 - t) % 4)) t 4
    omega
theorem rot_lt (v t : Int) (ht : 0 ≤ t ∧ t ≤ 3) : rotTo v t 4 ≤ 15 := by
  obtain rfl | rfl | rfl | rfl : t = 0 ∨ t = 1 ∨ t = 2 ∨ t = 3 := by omega
  all_goals (
    simp only [rotTo]
    generalize bitI v 0 = b0
    generalize bitI v 1 = b1
    generalize bitI v 2 = b2
    generalize bitI v 3 = b3
    cases b0 <;> cases b1 <;> cases b2 <;> cases b3 <;> decide)
theorem hitsG_lt {k t s : Int} (ht : 0 ≤ t ∧ t ≤ 3) : hitsG k t s ≤ 15 := by
  unfold hitsG
  split
  · omega
  · exact rot_lt _ _ ht
theorem dn_neg (v : Nat) : decide (dn v < 0) = decide (¬ v < big) := by
  unfold dn
  rw [decide_eq_decide]
  split <;> omega
def soonV (N : Net) (L E : Nat → Nat) (i s : Nat) : Nat :=
  min (N.push i s) (match N.near i s with
    | none => big
    | some q => best4 fun fr => gE N L q fr (opp s) (E (4 * q + fr)))
def latestV (N : Net) (S : Nat → Nat → Bool) (E : Nat → Nat) (i s : Nat) : Nat :=
  min (N.push i s) (match N.near i s with
    | none => big
    | some q => gL N S q (opp s) (best4 fun fr => E (4 * q + fr)))
theorem early_at {N : Net} {L E : Nat → Nat} {i s : Nat} (hi : i < N.n) (hs : s < 4) : earlyF N L E (4 * i + s) = if N.can i s = true then soonV N L E i s else big := by
  unfold earlyF soonV
  rw [show (4 * i + s) / 4 = i by omega, show (4 * i + s) % 4 = s by omega]
  by_cases h : N.can i s = true
  · rw [if_pos ⟨by omega, h⟩, if_pos h]
    rfl
  · rw [if_neg (fun e => h e.2), if_neg h]
theorem late_at {N : Net} {S : Nat → Nat → Bool} {E : Nat → Nat} {i s : Nat} (hi : i < N.n) (hs : s < 4) : lateF N S E (4 * i + s) = if N.can i s = true then latestV N S E i s else big := by
  unfold lateF latestV
  rw [show (4 * i + s) / 4 = i by omega, show (4 * i + s) % 4 = s by omega]
  by_cases h : N.can i s = true
  · rw [if_pos ⟨by omega, h⟩, if_pos h]
    rfl
  · rw [if_neg (fun e => h e.2), if_neg h]
theorem near_nat {xs : List Pc} {i s : Nat} (h : 0 ≤ nearI xs i s) : ∃ j : Nat, nearI xs i s = j ∧ j < xs.length := by
  unfold nearI at h ⊢
  cases e : xs[i]? with
  | none => rw [e] at h; simp at h
  | some p =>
    rw [e] at h
    dsimp only at h ⊢
    cases ha : xs.any (atC (nx p.x s) (ny p.y s)) with
    | false => rw [idxOf_none ha] at h; omega
    | true =>
      obtain ⟨k, x, e1, e2, _⟩ := idxOf_some ha
      exact ⟨k, e1, (List.getElem?_eq_some_iff.1 e2).1⟩
def Few (E : Nat → Nat) : Prop := ∀ y, E y < big → E y ≤ 4000
def gTo (p : Nat) (f : Nat → Nat) : Nat → Nat
  | 0 => p
  | k + 1 => min (gTo p f k) (f k)
theorem gTo_four (p : Nat) (f : Nat → Nat) : gTo p f 4 = min p (best4 f) := by
  simp only [gTo, best4]
  omega
theorem gTo_le {p : Nat} (h : p ≤ big) (f : Nat → Nat) : ∀ k, gTo p f k ≤ big
  | 0 => h
  | k + 1 => by have := gTo_le h f k; simp only [gTo]; omega
theorem push_in {D : ClkD} (hD : D.Ok) (i s : Nat) : D.net.push i s ≤ big := by
  simp only [ClkD.net, netOf]
  cases D.xs[i]? with
  | none => exact Nat.le_refl _
  | some p => exact pushV_le _ _ _ _
theorem opp_rem {s : Nat} (hs : s < 4) : ((s : Int) + 2).tmod 4 = ((opp s : Nat) : Int) := by
  unfold opp
  rw [Int.tmod_eq_emod_of_nonneg (by omega)]
  omega
theorem opp_lt (s : Nat) : opp s < 4 := by unfold opp; omega
theorem near_some {D : ClkD} {i s j : Nat} (h : nearI D.xs i s = j) : D.net.near i s = some j := by
  simp only [ClkD.net, netOf]
  rw [h, if_neg (by omega), Int.toNat_natCast]
theorem near_none {D : ClkD} {i s : Nat} (h : nearI D.xs i s < 0) : D.net.near i s = none := by
  simp only [ClkD.net, netOf]
  rw [if_pos h]
structure SdA (w : World) (g n : Nat) (S : Nat → Nat → Bool) : Prop where
  lt : g < w.heap.size
  c : ∀ i s, i < n → s < 4 → w.cell? ⟨g, i * 4 + s, none⟩ = some (.bool (S i s))
theorem SdA.below {w w1 : World} {g n B : Nat} {S : Nat → Nat → Bool} (h : SdA w g n S) (hb : Below B w w1) (hB : g < B) : SdA w1 g n S :=
  ⟨Nat.lt_of_lt_of_le h.lt hb.size, fun i s hi hs => (hb.cell (p := ⟨g, _, none⟩) hB).trans (h.c i s hi hs)⟩
theorem always_false {N : Net} {S : Nat → Nat → Bool} {q tt fr : Nat} (hf : fr < 4) (h1 : S q fr = true) (h2 : N.hit q fr tt = false) : always N S q tt = false := by
  unfold always
  rw [List.all_eq_false]
  exact ⟨fr, List.mem_range.2 hf, by simp [h1, h2]⟩
theorem always_true {N : Net} {S : Nat → Nat → Bool} {q tt : Nat} (h : ∀ fr, fr < 4 → (!S q fr || N.hit q fr tt) = true) : always N S q tt = true := by
  unfold always
  rw [List.all_eq_true]
  exact fun fr hf => h fr (List.mem_range.1 hf)
theorem best4_big {f : Nat → Nat} {n : Nat} (h : ∀ k, k < 4 → f k < big → f k ≤ n) (hb : best4 f < big) : best4 f ≤ n := by
  obtain ⟨k, hk, e⟩ := best4_ex f
  rw [e] at hb ⊢
  exact h k hk hb
/-- A pass, as far as it has come. -/
structure Bst (F : (Nat → Nat) → Nat → Nat) (m : Nat) (E Ec : Nat → Nat) (ch : Bool) (y : Nat) : Prop where
  pre : ∀ z, F Ec z ≤ Ec z
  le : ∀ z, Ec z ≤ big
  bd : bounded Ec m
  st : (ch = false ∧ Ec = E ∧ ∀ z, z < y → E z = F E z) ∨ (ch = true ∧ sumE Ec m < sumE E m)
theorem Bst.start {F : (Nat → Nat) → Nat → Nat} {m : Nat} {E : Nat → Nat} (h1 : ∀ z, F E z ≤ E z) (h2 : ∀ z, E z ≤ big) (h3 : bounded E m) : Bst F m E E false 0 :=
  ⟨h1, h2, h3, .inl ⟨rfl, rfl, fun z hz => by omega⟩⟩
theorem Bst.skip {F : (Nat → Nat) → Nat → Nat} {m : Nat} {E Ec : Nat → Nat} {ch : Bool} {y : Nat} (h : Bst F m E Ec ch y) (he : F Ec y = Ec y) : Bst F m E Ec ch (y + 1) := by
  refine ⟨h.pre, h.le, h.bd, h.st.imp (fun ⟨h1, h2, h3⟩ => ⟨h1, h2, fun z hz => ?_⟩) id⟩
  rcases Nat.lt_or_ge z y with h4 | h4
  · exact h3 z h4
  · obtain rfl : z = y := by omega
    rw [← h2, he]
theorem Bst.set {F : (Nat → Nat) → Nat → Nat} {m : Nat} (hT : Tick F) (hs : Slow F m) {E Ec : Nat → Nat} {ch : Bool} {y : Nat} (h : Bst F m E Ec ch y) (hy : y < m) : Bst F m E (upd Ec y (F Ec y)) (ch || decide (F Ec y ≠ Ec y)) (y + 1) := by
  by_cases he : F Ec y = Ec y
  · rw [he, upd_same]
    simp only [ne_eq, not_true_eq_false, decide_false, Bool.or_false]
    exact h.skip he
  · have hlt : F Ec y < Ec y := by have := h.pre y; omega
    refine ⟨better_step hT h.pre y, fun z => ?_, bounded_step hs h.pre h.le h.bd hy, .inr ⟨by simp [he], ?_⟩⟩
    · unfold upd
      split
      · exact hT.le _ _
      · exact h.le z
    · have := sumE_upd Ec y (F Ec y) m
      rw [if_pos hy, if_pos hy] at this
      rcases h.st with ⟨_, h2, _⟩ | ⟨_, h2⟩
      · rw [← h2]; omega
      · omega
theorem Bst.few {F : (Nat → Nat) → Nat → Nat} {n : Nat} {E Ec : Nat → Nat} {ch : Bool} {y : Nat} (h : Bst F (4 * n) E Ec ch y) (hn : n ≤ 60) : Few Ec := by
  intro z hz
  have := h.bd z hz
  have := cntE_le Ec (4 * n)
  omega
theorem dn_eq {a b : Nat} (ha : a ≤ big) (hb : b ≤ big) : (dn a != dn b) = decide (a ≠ b) := by
  rw [Bool.eq_iff_iff]
  simp only [bne_iff_ne, ne_eq, decide_eq_true_eq]
  constructor
  · intro h e; exact h (by rw [e])
  · intro h e
    apply h
    unfold dn at e
    split at e <;> split at e <;> omega
theorem grown_of {w w1 : World} (row : Option Nat) (hb : Below w.heap.size w w1) : w.grownBy w1 row := ⟨hb.os, hb.tape, hb.output, hb.size, fun i hi _ => hb.block i hi⟩
theorem TkA.set {w : World} {g n : Nat} {E : Nat → Nat} (h : TkA w g n E) {i s : Nat} (hi : i < n) (hs : s < 4) (v : Nat) : TkA (w.setCell ⟨g, i * 4 + s, none⟩ (.int .i64 (dn v))) g n (upd E (4 * i + s) v) := by
  refine ⟨by simpa using h.lt, fun j k hj hk => ?_⟩
  by_cases e : j = i ∧ k = s
  · obtain ⟨rfl, rfl⟩ := e
    rw [upd_at]
    exact World.cell?_setCell_same _ _ _ (h.c j k hj hk)
  · rw [upd_ne _ _ (by omega), World.cell?_setCell_other _ _ _ _ (by intro x; simp only [Addr.mk.injEq] at x; omega)]
    exact h.c j k hj hk
theorem store_grown (w : World) (q j : Nat) (v : Value) : w.grownBy (w.setCell ⟨q, j, none⟩ v) (some q) :=
  ⟨rfl, rfl, rfl, by simp, fun k _ hk => heap_setCell_other w ⟨q, j, none⟩ k v (fun e => hk (by simp [e]))⟩
def Fz (w : World) (g : Nat) : Prop := ∀ j, w.frozen? ⟨g, j, none⟩ = false
theorem Fz.below {w w1 : World} {g B : Nat} (h : Fz w g) (hb : Below B w w1) (hB : g < B) : Fz w1 g := fun j => (hb.frozen (p := ⟨g, j, none⟩) hB).trans (h j)
theorem Fz.set {w : World} {g : Nat} (h : Fz w g) (a : Addr) (v : Value) : Fz (w.setCell a v) g := fun j => by rw [World.frozen?_setCell]; exact h j
structure Apart (g cb : Nat) (D : ClkD) : Prop where
  cb : cb ≠ g
  bb : D.bb ≠ g
  ap : 0 < D.xs.length → ∀ a, D.ap = some a → a.block ≠ g
  al : 0 < D.ps.length → ∀ a, D.al = some a → a.block ≠ g
  sa : 0 < D.ss.length → ∀ a, D.sa = some a → a.block ≠ g
  na : 0 < D.xs.length → ∀ a, D.na = some a → a.block ≠ g
theorem Apart.new {w : World} {cb g : Nat} {D : ClkD} (h : Clk w cb D) (hg : w.heap.size ≤ g) : Apart g cb D := by
  refine ⟨?_, ?_, fun hp a e => ?_, fun hp a e => ?_, fun hp a e => ?_, fun hp a e => ?_⟩
  · have := h.lt; omega
  · have := h.bd.lt; omega
  · obtain ⟨b, o, e2, hl, _⟩ := h.px.cells hp
    rw [e] at e2; cases e2; dsimp only; omega
  · obtain ⟨b, o, e2, hl, _⟩ := h.pu.cells hp
    rw [e] at e2; cases e2; dsimp only; omega
  · obtain ⟨b, o, e2, hl, _⟩ := h.sp.cells hp
    rw [e] at e2; cases e2; dsimp only; omega
  · obtain ⟨b, e2, hl, _⟩ := h.nr hp
    rw [e] at e2; cases e2; dsimp only; omega
theorem SlA.kept0 {α : Type} {enc : α → List Value} {n : Nat} {w w1 : World} {a : Option Addr} {xs : List α} {g : Nat} (h : SlA enc n w a xs) (hg : w.grownBy w1 (some g)) (hne : 0 < xs.length → ∀ b, a = some b → b.block ≠ g) : SlA enc n w1 a xs :=
  ⟨h.small, fun hp => by
    obtain ⟨b, o, e, hlt, hc⟩ := h.cells hp
    exact ⟨b, o, e, Nat.lt_of_lt_of_le hlt hg.size, fun i p hi j u hu => (hg.cell_far ⟨b, _, none⟩ hlt (by simpa using hne hp _ e)).trans (hc i p hi j u hu)⟩⟩
theorem Clk.kept {w w1 : World} {cb g : Nat} {D : ClkD} (h : Clk w cb D) (hg : w.grownBy w1 (some g)) (ha : Apart g cb D) : Clk w1 cb D := by
  have c : ∀ o v, w.cell? ⟨cb, o, none⟩ = some v → w1.cell? ⟨cb, o, none⟩ = some v := fun o v e => (hg.cell_far ⟨cb, o, none⟩ h.lt (by simpa using ha.cb)).trans e
  refine ⟨Nat.lt_of_lt_of_le h.lt hg.size, c _ _ h.c0, c _ _ h.c1, c _ _ h.c2, c _ _ h.c3, h.bd.kept hg (by simpa using ha.bb), h.px.kept0 hg ha.ap, h.pu.kept0 hg ha.al, h.sp.kept0 hg ha.sa, fun hp => ?_⟩
  obtain ⟨q, e, hl, hc⟩ := h.nr hp
  exact ⟨q, e, Nat.lt_of_lt_of_le hl hg.size, fun i s hi hs => (hg.cell_far ⟨q, _, none⟩ hl (by simpa using ha.na hp _ e)).trans (hc i s hi hs)⟩
/-- One of the clock's own turning cells is written. -/
theorem Clk.turn {w : World} {cb : Nat} {D : ClkD} (h : Clk w cb D) (o : Nat) (ho : 4 ≤ o) (v : Value) (h1 : D.bb ≠ cb) (ha : Apart cb (cb + 1) D) : Clk (w.setCell ⟨cb, o, none⟩ v) cb D := by
  have hg := store_grown w cb o v
  have c : ∀ q u, q < 4 → w.cell? ⟨cb, q, none⟩ = some u → (w.setCell ⟨cb, o, none⟩ v).cell? ⟨cb, q, none⟩ = some u := fun q u hq e => by
    rw [World.cell?_setCell_other _ _ _ _ (by intro x; simp only [Addr.mk.injEq] at x; omega)]
    exact e
  refine ⟨by simpa using h.lt, c _ _ (by omega) h.c0, c _ _ (by omega) h.c1, c _ _ (by omega) h.c2, c _ _ (by omega) h.c3, h.bd.kept hg (by simpa using h1), h.px.kept0 hg ha.ap, h.pu.kept0 hg ha.al, h.sp.kept0 hg ha.sa, fun hp => ?_⟩
  obtain ⟨q, e, hl, hc⟩ := h.nr hp
  exact ⟨q, e, by simpa using hl, fun i s hi hs => (hg.cell_far ⟨q, _, none⟩ hl (by simpa using ha.na hp _ e)).trans (hc i s hi hs)⟩
theorem TkA.kept {w w1 : World} {g0 g n : Nat} {E : Nat → Nat} (h : TkA w g0 n E) (hg : w.grownBy w1 (some g)) (hne : g0 ≠ g) : TkA w1 g0 n E :=
  ⟨Nat.lt_of_lt_of_le h.lt hg.size, fun i s hi hs => (hg.cell_far ⟨g0, _, none⟩ h.lt (by simpa using hne)).trans (h.c i s hi hs)⟩
theorem SdA.kept {w w1 : World} {g0 g n : Nat} {S : Nat → Nat → Bool} (h : SdA w g0 n S) (hg : w.grownBy w1 (some g)) (hne : g0 ≠ g) : SdA w1 g0 n S :=
  ⟨Nat.lt_of_lt_of_le h.lt hg.size, fun i s hi hs => (hg.cell_far ⟨g0, _, none⟩ h.lt (by simpa using hne)).trans (h.c i s hi hs)⟩
end Go.Proofs.Ytgkgklgeobbmlaa
