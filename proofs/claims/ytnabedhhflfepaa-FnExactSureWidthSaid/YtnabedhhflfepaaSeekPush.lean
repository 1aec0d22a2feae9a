/-
  The program's search: the pushes told one after another; blocks that are written, and no others.
  Conditions: the pieces stand on different cells, each push on a piece.
-/
import Derived.Test.YtnabedhhflfepaaSeekLaw
import Derived.Test.YtnabedhhflfepaaWin
import Derived.Test.YtnabedhhflfepaaPushes
import Derived.Test.YtnabedhhflfepaaTicks
import Derived.Test.YtnabedhhflfepaaHitsOf
namespace Go.Proofs.Ytnabedhhflfepaa
open Go.RowKit
set_option linter.unusedSimpArgs false
set_option linter.unusedVariables false

def pTo (xs : List Pc) (ps : List Pu) (k i s : Nat) : Nat := match xs[i]? with | some p => pushV p.x p.y s (ps.take k) | none => big
theorem pTo_le (xs : List Pc) (ps : List Pu) (k i s : Nat) : pTo xs ps k i s ≤ big := by
  unfold pTo
  cases xs[i]? with
  | none => exact Nat.le_refl _
  | some p => exact pushV_le _ _ _ _
theorem pTo_all (xs : List Pc) (ps : List Pu) (ss : List Sp) : pTo xs ps ps.length = (netOf xs ps ss).push := by
  funext i s
  simp only [pTo, netOf, List.take_length]
  cases xs[i]? <;> rfl
theorem pushF_zero (N : Net) (xs : List Pc) (ps : List Pu) : pushF N (pTo xs ps 0) = fun _ => big := by
  funext y
  unfold pushF pTo
  split
  · cases xs[y / 4]? with
    | none => rfl
    | some p => rfl
  · rfl
theorem pushF_le (N : Net) (xs : List Pc) (ps : List Pu) (k y : Nat) : pushF N (pTo xs ps k) y ≤ big := by
  unfold pushF
  split
  · exact pTo_le _ _ _ _ _
  · exact Nat.le_refl _
theorem pTo_step {xs : List Pc} {ps : List Pu} {ss : List Sp} {k j : Nat} {q : Pu} (hq : ps[k]? = some q) (one : ∀ (i j : Nat) p q, xs[i]? = some p → xs[j]? = some q → p.x = q.x → p.y = q.y → i = j)
    (hj : idxOf (atC q.x q.y) xs = j) (hon : onB xs q = true) (hs : 0 ≤ q.s ∧ q.s ≤ 3) (ht : 0 ≤ q.t ∧ q.t ≤ 1000) (y : Nat) :
    addT (netOf xs ps ss) (pushF (netOf xs ps ss) (pTo xs ps k)) j q.s.toNat q.t.toNat y = pushF (netOf xs ps ss) (pTo xs ps (k + 1)) y := by
  obtain ⟨j', pj, e1, e2, e3, _⟩ := idxOf_some (show xs.any (atC q.x q.y) = true from hon)
  have hjj : j' = j := by omega
  subst hjj
  have hjl := (List.getElem?_eq_some_iff.1 e2).1
  unfold atC at e3
  simp only [decide_eq_true_eq] at e3
  have hle := pushF_le (netOf xs ps ss) xs ps k y
  rw [addT_at]
  unfold pushF
  by_cases hc : y < 4 * (netOf xs ps ss).n ∧ (netOf xs ps ss).can (y / 4) (y % 4) = true
  · rw [if_pos hc, if_pos hc]
    have hyl : y / 4 < xs.length := by have : y < 4 * xs.length := hc.1; omega
    obtain ⟨px, ey⟩ : ∃ px, xs[y / 4]? = some px := ⟨_, List.getElem?_eq_getElem hyl⟩
    have hst : pTo xs ps (k + 1) (y / 4) (y % 4) = min (pTo xs ps k (y / 4) (y % 4)) (puVal px.x px.y ((y % 4 : Nat) : Int) q) := by
      unfold pTo
      rw [ey]
      exact pushV_take hq
    have hple := pTo_le xs ps k (y / 4) (y % 4)
    rw [hst]
    unfold puVal
    by_cases hy : y = 4 * j' + q.s.toNat
    · have h1 : y / 4 = j' := by omega
      have h2 : y % 4 = q.s.toNat := by omega
      have hcan : (netOf xs ps ss).can j' q.s.toNat = true := by rw [← h1, ← h2]; exact hc.2
      have hp : px = pj := by
        have := ey
        rw [h1, e2] at this
        exact (Option.some.inj this).symm
      rw [if_pos ⟨hy, hcan⟩, hp, if_pos ⟨e3.1.symm, e3.2.symm, by omega⟩]
    · rw [if_neg (fun h => hy h.1), if_neg]
      · omega
      · rintro ⟨h1, h2, h3⟩
        have := one (y / 4) j' _ pj ey e2 (by rw [← h1, e3.1]) (by rw [← h2, e3.2])
        omega
  · rw [if_neg hc, if_neg hc]
    split
    · rename_i h
      exfalso
      refine hc ⟨?_, ?_⟩
      · show y < 4 * xs.length
        omega
      · rw [show y / 4 = j' by omega, show y % 4 = q.s.toNat by omega]; exact h.2
    · rfl
/-! ### What is written -/
/-- No block but those of a list is written (and new ones). -/
structure Only (w w' : World) (l : List Nat) : Prop where
  os : w'.os = w.os
  tape : w'.tape = w.tape
  output : w'.output = w.output
  size : w.heap.size ≤ w'.heap.size
  block : ∀ k, k < w.heap.size → k ∉ l → w'.heap[k]? = w.heap[k]?
section
variable {w w1 w2 : World} {l : List Nat}
theorem Only.refl (w : World) (l : List Nat) : Only w w l := ⟨rfl, rfl, rfl, Nat.le_refl _, fun _ _ _ => rfl⟩
theorem Only.trans (h : Only w w1 l) (k : Only w1 w2 l) : Only w w2 l :=
  ⟨k.os.trans h.os, k.tape.trans h.tape, k.output.trans h.output, Nat.le_trans h.size k.size, fun i hi hn => (k.block i (Nat.lt_of_lt_of_le hi h.size) hn).trans (h.block i hi hn)⟩
theorem Only.of_below (h : Below w.heap.size w w1) (l : List Nat) : Only w w1 l := ⟨h.os, h.tape, h.output, h.size, fun i hi _ => h.block i hi⟩
theorem Only.of_grown {g : Nat} (h : w.grownBy w1 (some g)) (hg : g ∈ l) : Only w w1 l := ⟨h.os, h.tape, h.output, h.size, fun i hi hn => h.block i hi (fun e => by cases e; exact hn hg)⟩
theorem Only.more (h : Only w w1 l) {l' : List Nat} (hl : ∀ x ∈ l, x ∈ l') : Only w w1 l' := ⟨h.os, h.tape, h.output, h.size, fun i hi hn => h.block i hi (fun e => hn (hl i e))⟩
theorem Only.cell (h : Only w w1 l) {a : Addr} {v : Value} (hc : w.cell? a = some v) (hn : a.block ∉ l) : w1.cell? a = some v :=
  (World.cell?_of_block (h.block _ (World.block_lt_of_cell? w a hc) hn)).trans hc
theorem Only.fz (h : Only w w1 l) {g : Nat} (hf : Fz w g) (hg : g < w.heap.size) (hn : g ∉ l) : Fz w1 g := fun j => (World.frozen?_of_block (a := ⟨g, j, none⟩) (h.block g hg hn)).trans (hf j)
theorem Only.tu (h : Only w w1 l) {g n : Nat} {E : Nat → Nat} (ht : TuA w g n E) (hn : g ∉ l) : TuA w1 g n E := ⟨Nat.lt_of_lt_of_le ht.lt h.size, fun i s hi hs => h.cell (ht.c i s hi hs) hn⟩
theorem Only.sd (h : Only w w1 l) {g n : Nat} {S : Nat → Nat → Bool} (ht : SdA w g n S) (hn : g ∉ l) : SdA w1 g n S := ⟨Nat.lt_of_lt_of_le ht.lt h.size, fun i s hi hs => h.cell (ht.c i s hi hs) hn⟩
theorem Only.below (h : Only w w1 l) {B : Nat} {w0 : World} (hb : Below B w0 w) (hB : B ≤ w.heap.size) (hl : ∀ x ∈ l, B ≤ x) : Below B w0 w1 :=
  ⟨h.os.trans hb.os, h.tape.trans hb.tape, h.output.trans hb.output, Nat.le_trans hb.size h.size, fun i hi => (h.block i (Nat.lt_of_lt_of_le hi hB) (fun e => by have := hl i e; omega)).trans (hb.block i hi)⟩
end
/-! ### The clock of the program, as it lies -/
structure TmgD where
  tb : Nat
  T : StgD
  sa : Option Addr
  sc : Nat
  ss : List Sp
  qa : Option Addr
  qc : Nat
  ps : List Pu
def TmgD.net (D : TmgD) : Net := netOf D.T.xs D.ps D.ss
def TmgD.clk (D : TmgD) : ClkD := ⟨0, 0, 0, none, 0, D.T.xs, none, 0, D.ps, none, 0, D.ss, none, 0⟩
structure Tmg (w : World) (D : TmgD) : Prop where
  c0 : w.cell? ⟨D.tb, 0, none⟩ = some (.pointer (some ⟨D.T.sb, 0, none⟩))
  c1 : w.cell? ⟨D.tb, 1, none⟩ = some (.slice D.sa D.ss.length D.sc)
  c2 : w.cell? ⟨D.tb, 2, none⟩ = some (.slice D.qa D.ps.length D.qc)
  st : Stg w D.T
  sp : SlA Sp.enc 2 w D.sa D.ss
  qs : SlA Q4.e64 4 w D.qa (D.ps.map (hitQp D.T.xs))
theorem Tmg.below {w w1 : World} {D : TmgD} (h : Tmg w D) (hb : Below w.heap.size w w1) : Tmg w1 D :=
  ⟨cell_on hb h.c0, cell_on hb h.c1, cell_on hb h.c2, h.st.below hb, h.sp.below hb, h.qs.below hb⟩
/-- How many flags of a row are not set: read out of the world. -/
def undW (w : World) (d : Nat) : Nat → Nat
  | 0 => 0
  | m + 1 => undW w d m + (match w.cell? ⟨d, m, none⟩ with | some (.bool true) => 0 | _ => 1)
theorem undW_eq {w : World} {d n : Nat} {Dn : Nat → Bool} (h : SdA w d n (fun i s => Dn (4 * i + s))) : ∀ m, m ≤ 4 * n → undW w d m = undone Dn m
  | 0, _ => rfl
  | m + 1, hm => by
    have ih := undW_eq h m (by omega)
    have hc := h.c (m / 4) (m % 4) (by omega) (by omega)
    have e : m / 4 * 4 + m % 4 = m := by omega
    have e2 : 4 * (m / 4) + m % 4 = m := by omega
    rw [e, e2] at hc
    unfold undW undone
    rw [ih, hc]
    cases Dn m <;> simp
end Go.Proofs.Ytnabedhhflfepaa
