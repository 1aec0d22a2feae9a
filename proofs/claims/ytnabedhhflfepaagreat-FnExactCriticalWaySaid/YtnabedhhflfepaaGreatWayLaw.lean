/-
  Plain law of the critical way: at rest a latest hit comes from a push or from a neighbour that always hits.
  Conditions: none.
-/
import Derived.Test.YtnabedhhflfepaaGreatWiderLaw
namespace Go.Proofs.YtnabedhhflfepaaGreat
open Go.RowKit
set_option linter.unusedSimpArgs false
set_option linter.unusedVariables false

theorem rd_fix {N : Net} (ok : N.Ok) (M y : Nat) : (rd N (M + 1)).L y = lateF N (rd N (M + 1)).S (rd N (M + 1)).L y := (late_tick ok _).fix y
theorem fin_L {N : Net} (ok : N.Ok) (y : Nat) : (fin N).L y = lateF N (fin N).S (fin N).L y := by
  obtain ⟨M, hM⟩ : ∃ M, fin N = rd N (M + 1) := ⟨rest N, rfl⟩
  rw [hM]
  exact rd_fix ok M y
/-- The least of the latest hits of a piece. -/
def latO (L : Nat → Nat) (i : Nat) : Nat := best4 fun k => L (4 * i + k)
/-- The least side with it. -/
def sideO (L : Nat → Nat) (i : Nat) : Nat := if L (4 * i) = latO L i then 0 else if L (4 * i + 1) = latO L i then 1 else if L (4 * i + 2) = latO L i then 2 else 3
theorem sideO_lt (L : Nat → Nat) (i : Nat) : sideO L i < 4 := by unfold sideO; split <;> (try split) <;> (try split) <;> omega
theorem sideO_at (L : Nat → Nat) (i : Nat) : L (4 * i + sideO L i) = latO L i := by
  have hx := best4_ex fun k => L (4 * i + k)
  obtain ⟨k, hk, e⟩ := hx
  have e' : latO L i = L (4 * i + k) := e
  unfold sideO
  have hk4 : k = 0 ∨ k = 1 ∨ k = 2 ∨ k = 3 := by omega
  split
  · assumption
  · split
    · assumption
    · split
      · assumption
      · rcases hk4 with rfl | rfl | rfl | rfl
        · exact absurd e'.symm (by assumption)
        · exact absurd e'.symm (by assumption)
        · exact absurd e'.symm (by assumption)
        · exact e'.symm
theorem sideO_first {L : Nat → Nat} {i s : Nat} (h : s < sideO L i) : L (4 * i + s) ≠ latO L i := by
  unfold sideO at h
  have h0 : s = 0 ∨ s = 1 ∨ s = 2 ∨ 3 ≤ s := by omega
  split at h
  · omega
  · split at h
    · obtain rfl : s = 0 := by omega
      assumption
    · split at h
      · have : s = 0 ∨ s = 1 := by omega
        rcases this with rfl | rfl <;> assumption
      · have : s = 0 ∨ s = 1 ∨ s = 2 := by omega
        rcases this with rfl | rfl | rfl <;> assumption
/-- Whether a push makes a piece fall at its latest. -/
def stopO (N : Net) (L : Nat → Nat) (i : Nat) : Bool := (List.range 4).any fun s => decide (L (4 * i + s) = latO L i) && decide (N.push i s = latO L i)
theorem stopO_iff {N : Net} {L : Nat → Nat} {i : Nat} : stopO N L i = true ↔ ∃ s, s < 4 ∧ L (4 * i + s) = latO L i ∧ N.push i s = latO L i := by
  unfold stopO
  rw [List.any_eq_true]
  simp only [List.mem_range, Bool.and_eq_true, decide_eq_true_eq]
theorem late_cut {N : Net} {S : Nat → Nat → Bool} {E : Nat → Nat} {i s : Nat} (hs : s < 4) (h : lateF N S E (4 * i + s) < big) : i < N.n ∧ N.can i s = true ∧ lateF N S E (4 * i + s) = min (N.push i s) (match N.near i s with | none => big | some q => gL N S q (opp s) (latO E q)) := by
  unfold lateF at h ⊢
  have e1 : (4 * i + s) / 4 = i := by omega
  have e2 : (4 * i + s) % 4 = s := by omega
  rw [e1, e2] at h ⊢
  split at h
  · rename_i hc
    rw [if_pos hc]
    exact ⟨by omega, hc.2, rfl⟩
  · omega
/-- Where no push does, it is the neighbour on that side. -/
theorem way_law {N : Net} (ok : N.Ok) {S : Nat → Nat → Bool} {L : Nat → Nat} (fx : ∀ y, L y = lateF N S L y) {i : Nat} (hb : latO L i < big) (hs : stopO N L i = false) :
    ∃ q, N.near i (sideO L i) = some q ∧ q < N.n ∧ always N S q (opp (sideO L i)) = true ∧ latO L q + N.high q = latO L i := by
  have hx := sideO_at L i
  have h4 := sideO_lt L i
  have hf := fx (4 * i + sideO L i)
  rw [hx] at hf
  obtain ⟨hi, hc, hl⟩ := late_cut (N := N) (S := S) (E := L) h4 (by rw [← hf]; exact hb)
  rw [← hf] at hl
  have hp : N.push i (sideO L i) ≠ latO L i := by
    intro e
    have : stopO N L i = true := stopO_iff.2 ⟨_, h4, hx, e⟩
    rw [hs] at this
    cases this
  cases hn : N.near i (sideO L i) with
  | none =>
    rw [hn] at hl
    dsimp only at hl
    omega
  | some q =>
    rw [hn] at hl
    dsimp only at hl
    have hq := (ok.sym i _ q hi h4 hn).1
    unfold gL at hl
    split at hl
    · rename_i ha
      exact ⟨q, rfl, hq, ha, by omega⟩
    · omega
/-- .. and no other that comes before it is one. -/
def wayF (N : Net) (L : Nat → Nat) : Nat → Nat → List Int
  | 0, _ => []
  | f + 1, i => if stopO N L i = true then [(i : Int)] else match N.near i (sideO L i) with
    | some q => wayF N L f q ++ [(i : Int)]
    | none => [(i : Int)]
theorem wayF_stop {N : Net} {L : Nat → Nat} {f i : Nat} (h : stopO N L i = true) : wayF N L (f + 1) i = [(i : Int)] := by rw [wayF, if_pos h]
theorem wayF_to {N : Net} {L : Nat → Nat} {f i q : Nat} (h : stopO N L i = false) (hq : N.near i (sideO L i) = some q) : wayF N L (f + 1) i = wayF N L f q ++ [(i : Int)] := by
  rw [wayF, if_neg (by rw [h]; simp), hq]
def wayO (N : Net) (L : Nat → Nat) (i : Nat) : List Int := wayF N L (latO L i + 1) i
theorem wayF_more {N : Net} (ok : N.Ok) {S : Nat → Nat → Bool} {L : Nat → Nat} (fx : ∀ y, L y = lateF N S L y) : ∀ (f g i : Nat), latO L i < big → latO L i < f → latO L i < g → wayF N L f i = wayF N L g i
  | 0, _, _, _, h, _ => by omega
  | _ + 1, 0, _, _, _, h => by omega
  | f + 1, g + 1, i, hb, h1, h2 => by
    cases hs : stopO N L i
    · obtain ⟨q, h3, h4, h5, h6⟩ := way_law ok fx hb hs
      have := ok.high1 q
      rw [wayF_to hs h3, wayF_to hs h3, wayF_more ok fx f g q (by omega) (by omega) (by omega)]
    · rw [wayF_stop hs, wayF_stop hs]
theorem way_stop {N : Net} {L : Nat → Nat} {i : Nat} (h : stopO N L i = true) : wayO N L i = [(i : Int)] := by
  unfold wayO
  rw [wayF_stop h]
theorem way_step {N : Net} (ok : N.Ok) {S : Nat → Nat → Bool} {L : Nat → Nat} (fx : ∀ y, L y = lateF N S L y) {i q : Nat} (hb : latO L i < big) (hs : stopO N L i = false) (hq : N.near i (sideO L i) = some q) (hl : latO L q < latO L i) : wayO N L i = wayO N L q ++ [(i : Int)] := by
  unfold wayO
  rw [wayF_to hs hq, wayF_more ok fx _ (latO L q + 1) q (by omega) (by omega) (by omega)]
def cntO (f : Nat → Nat) (v : Nat) : Nat → Nat
  | 0 => 0
  | m + 1 => cntO f v m + if f m < v then 1 else 0
theorem cntO_le (f : Nat → Nat) (v : Nat) : ∀ m, cntO f v m ≤ m
  | 0 => Nat.le_refl _
  | m + 1 => by have := cntO_le f v m; unfold cntO; split <;> omega
theorem cntO_lt {f : Nat → Nat} {u v : Nat} (h : u < v) : ∀ m, cntO f u m ≤ cntO f v m
  | 0 => Nat.le_refl _
  | m + 1 => by have := cntO_lt (f := f) h m; unfold cntO; split <;> split <;> omega
theorem cntO_one {f : Nat → Nat} {q v : Nat} (h : f q < v) : ∀ m, q < m → cntO f (f q) m + 1 ≤ cntO f v m
  | 0, hm => by omega
  | m + 1, hm => by
    unfold cntO
    rcases Nat.lt_or_ge q m with h1 | h1
    · have := cntO_one h m h1
      split <;> split <;> omega
    · obtain rfl : q = m := by omega
      have := cntO_lt (f := f) h q
      rw [if_neg (by omega), if_pos h]
      omega
theorem way_len {N : Net} (ok : N.Ok) {S : Nat → Nat → Bool} {L : Nat → Nat} (fx : ∀ y, L y = lateF N S L y) : ∀ (v i : Nat), latO L i ≤ v → latO L i < big → (wayO N L i).length ≤ cntO (latO L) (latO L i) N.n + 1 := by
  intro v
  induction v with
  | zero =>
    intro i h hb
    cases hs : stopO N L i
    · obtain ⟨q, h3, h4, h5, h6⟩ := way_law ok fx hb hs
      have := ok.high1 q
      omega
    · rw [way_stop hs]; simp
  | succ v ih =>
    intro i h hb
    cases hs : stopO N L i
    · obtain ⟨q, h3, h4, h5, h6⟩ := way_law ok fx hb hs
      have hh := ok.high1 q
      rw [way_step ok fx hb hs h3 (by omega), List.length_append]
      have h7 := ih q (by omega) (by omega)
      have h8 := cntO_one (f := latO L) (q := q) (v := latO L i) (by omega) N.n h4
      simp only [List.length_singleton]
      omega
    · rw [way_stop hs]; simp
theorem wayO_len {N : Net} (ok : N.Ok) {S : Nat → Nat → Bool} {L : Nat → Nat} (fx : ∀ y, L y = lateF N S L y) {i : Nat} (hb : latO L i < big) : (wayO N L i).length ≤ N.n + 1 := by
  have h1 := way_len ok fx _ i (Nat.le_refl _) hb
  have h2 := cntO_le (latO L) (latO L i) N.n
  omega
/-- Every hit of a piece is no earlier than the least. -/
theorem latO_le {L : Nat → Nat} {i s : Nat} (hs : s < 4) : latO L i ≤ L (4 * i + s) := best4_le (f := fun k => L (4 * i + k)) hs
/-- A push at that tick, on a side on which the piece can fall. -/
theorem stop_of {N : Net} {S : Nat → Nat → Bool} {L : Nat → Nat} (fx : ∀ y, L y = lateF N S L y) {i s : Nat} (hi : i < N.n) (hs : s < 4) (hc : N.can i s = true) (hp : N.push i s ≤ latO L i) (hb : latO L i < big) : stopO N L i = true := by
  have hf := fx (4 * i + s)
  have hle := latO_le (L := L) (i := i) hs
  have h1 : lateF N S L (4 * i + s) ≤ N.push i s := by
    unfold lateF
    have e1 : (4 * i + s) / 4 = i := by omega
    have e2 : (4 * i + s) % 4 = s := by omega
    rw [e1, e2, if_pos ⟨by omega, hc⟩]
    omega
  exact stopO_iff.2 ⟨s, hs, by omega, by omega⟩
theorem stop_can {N : Net} {S : Nat → Nat → Bool} {L : Nat → Nat} (fx : ∀ y, L y = lateF N S L y) {i : Nat} (hb : latO L i < big) (h : stopO N L i = true) : ∃ s, s < 4 ∧ N.can i s = true ∧ N.push i s = latO L i := by
  obtain ⟨s, h1, h2, h3⟩ := stopO_iff.1 h
  have hf := fx (4 * i + s)
  obtain ⟨_, hc, _⟩ := late_cut (N := N) (S := S) (E := L) h1 (by rw [← hf]; omega)
  exact ⟨s, h1, hc, h3⟩
end Go.Proofs.YtnabedhhflfepaaGreat
