/-
  What waits in a run: a map from ticks to rows of hits, a row of ticks; the closure that adds a hit.
  Conditions: ticks are small, rows are short.
-/
import Derived.Test.YthhfndifcdiomaaGreatTiq
import Derived.Test.YthhfndifcdiomaaGreatApp
import Derived.Deep.AppendLies
namespace Go.Proofs.YthhfndifcdiomaaGreat
open Go.RowKit
set_option linter.unusedSimpArgs false
set_option linter.unusedVariables false

/-- The blocks of a queue. -/
def QB (lb tb mb : Nat) (H : Nat → Value) (A : Option Addr) (g : Nat) : Prop := g = lb ∨ g = tb ∨ g = mb ∨ (∃ a, A = some a ∧ a.block = g) ∨ ∃ t, (H t).ownBlock = some g
structure Que (w : World) (q0 lb tb mb nm : Nat) (H : Nat → Value) (Q : Nat → List Q4) (A : Option Addr) (c : Nat) (T : List Nat) : Prop where
  b0 : w.cell? ⟨lb, 0, none⟩ = some (.map (some mb))
  b1 : w.cell? ⟨tb, 0, none⟩ = some (.slice A T.length c)
  zt : Fz w tb
  mp : MapH w mb nm H
  tk : TkR w q0 A c T
  rows : ∀ t, w.ownsRow q0 161 4 (H t) (Q t).length ((Q t).flatMap Q4.e64)
  dis : ∀ s t, s ≠ t → ∀ g, (H s).ownBlock = some g → (H t).ownBlock ≠ some g
  far : ∀ t g, (H t).ownBlock = some g → g ≠ lb ∧ g ≠ tb ∧ g ≠ mb ∧ ∀ a, A = some a → a.block ≠ g
  sep : lb ≠ tb ∧ lb ≠ mb ∧ tb ≠ mb ∧ q0 ≤ lb ∧ q0 ≤ tb ∧ q0 ≤ mb
  sepA : ∀ a, A = some a → a.block ≠ lb ∧ a.block ≠ tb ∧ a.block ≠ mb
theorem own_same {w w1 : World} {base : Nat} {e : TypeId} {size : Nat} {v : Value} {n : Nat} {xs : List Value} (h : w.ownsRow base e size v n xs) (hb : ∀ g, v.ownBlock = some g → w1.heap[g]? = w.heap[g]?) : w1.ownsRow base e size v n xs := by
  refine ⟨h.1, ?_⟩
  rcases h.2 with h2 | ⟨g, cap, cur, hv, h3, h4, h5⟩
  · exact .inl h2
  · exact .inr ⟨g, cap, cur, hv, h3, (hb g (by rw [hv]; rfl)).trans h4, h5⟩
theorem Que.same {w w1 : World} {q0 lb tb mb nm : Nat} {H : Nat → Value} {Q : Nat → List Q4} {A : Option Addr} {c : Nat} {T : List Nat} (h : Que w q0 lb tb mb nm H Q A c T) (hs : w.heap.size ≤ w1.heap.size) (hb : ∀ g, QB lb tb mb H A g → w1.heap[g]? = w.heap[g]?) : Que w1 q0 lb tb mb nm H Q A c T :=
  ⟨(World.cell?_of_block (a := ⟨lb, 0, none⟩) (hb lb (.inl rfl))).trans h.b0, (World.cell?_of_block (a := ⟨tb, 0, none⟩) (hb tb (.inr (.inl rfl)))).trans h.b1, fun j => (World.frozen?_of_block (a := ⟨tb, j, none⟩) (hb tb (.inr (.inl rfl)))).trans (h.zt j),
    h.mp.same (hb mb (.inr (.inr (.inl rfl)))), h.tk.kept hs (fun a ha => hb _ (.inr (.inr (.inr (.inl ⟨a, ha, rfl⟩))))), fun t => own_same (h.rows t) (fun g hg => hb g (.inr (.inr (.inr (.inr ⟨t, hg⟩))))), h.dis, h.far, h.sep, h.sepA⟩
theorem Que.lt {w : World} {q0 lb tb mb nm : Nat} {H : Nat → Value} {Q : Nat → List Q4} {A : Option Addr} {c : Nat} {T : List Nat} (h : Que w q0 lb tb mb nm H Q A c T) {g : Nat} (hg : QB lb tb mb H A g) : g < w.heap.size ∧ q0 ≤ g := by
  rcases hg with rfl | rfl | rfl | ⟨a, ha, rfl⟩ | ⟨t, ht⟩
  · exact ⟨World.block_lt_of_cell? w ⟨g, 0, none⟩ h.b0, h.sep.2.2.2.1⟩
  · exact ⟨World.block_lt_of_cell? w ⟨g, 0, none⟩ h.b1, h.sep.2.2.2.2.1⟩
  · exact ⟨h.mp.lt, h.sep.2.2.2.2.2⟩
  · rcases h.tk.form with h1 | ⟨g, o, e, h1, h2, _⟩
    · rw [h1.1] at ha; cases ha
    · rw [e] at ha; cases ha
      exact ⟨h2, h1⟩
  · exact ⟨((h.rows t).lt _ ht).2, ((h.rows t).lt _ ht).1⟩
theorem Que.below {w w1 : World} {q0 lb tb mb nm : Nat} {H : Nat → Value} {Q : Nat → List Q4} {A : Option Addr} {c : Nat} {T : List Nat} (h : Que w q0 lb tb mb nm H Q A c T) (hb : Below w.heap.size w w1) : Que w1 q0 lb tb mb nm H Q A c T :=
  h.same hb.size (fun g hg => hb.block g (h.lt hg).1)
/-- What a queue's work leaves as it was. -/
structure QFr (w w1 : World) (lb tb mb : Nat) (H : Nat → Value) (A : Option Addr) (H' : Nat → Value) (A' : Option Addr) : Prop where
  os : w1.os = w.os
  tape : w1.tape = w.tape
  output : w1.output = w.output
  size : w.heap.size ≤ w1.heap.size
  block : ∀ g, g < w.heap.size → ¬ QB lb tb mb H A g → w1.heap[g]? = w.heap[g]?
  more : ∀ g, QB lb tb mb H' A' g → QB lb tb mb H A g ∨ w.heap.size ≤ g
theorem QFr.refl (w : World) (lb tb mb : Nat) (H : Nat → Value) (A : Option Addr) : QFr w w lb tb mb H A H A := ⟨rfl, rfl, rfl, Nat.le_refl _, fun _ _ _ => rfl, fun _ h => .inl h⟩
theorem QFr.trans {w w1 w2 : World} {lb tb mb : Nat} {H H1 H2 : Nat → Value} {A A1 A2 : Option Addr} (h : QFr w w1 lb tb mb H A H1 A1) (k : QFr w1 w2 lb tb mb H1 A1 H2 A2) : QFr w w2 lb tb mb H A H2 A2 :=
  ⟨k.os.trans h.os, k.tape.trans h.tape, k.output.trans h.output, Nat.le_trans h.size k.size, fun g hg hn => (k.block g (Nat.lt_of_lt_of_le hg h.size) (fun hq => (h.more g hq).elim hn (fun h2 => by omega))).trans (h.block g hg hn),
    fun g hg => (k.more g hg).elim (h.more g) (fun h2 => .inr (Nat.le_trans h.size h2))⟩
theorem QFr.of_below {w w1 : World} (hb : Below w.heap.size w w1) (lb tb mb : Nat) (H : Nat → Value) (A : Option Addr) : QFr w w1 lb tb mb H A H A := ⟨hb.os, hb.tape, hb.output, hb.size, fun g hg _ => hb.block g hg, fun _ h => .inl h⟩
theorem QFr.below {w0 w w1 : World} {q0 lb tb mb nm : Nat} {H H' : Nat → Value} {Q : Nat → List Q4} {A A' : Option Addr} {c : Nat} {T : List Nat} (h : QFr w w1 lb tb mb H A H' A') (hq : Que w q0 lb tb mb nm H Q A c T) (hb : Below q0 w0 w) (hs : q0 ≤ w.heap.size) : Below q0 w0 w1 :=
  ⟨h.os.trans hb.os, h.tape.trans hb.tape, h.output.trans hb.output, Nat.le_trans hb.size h.size, fun g hg => (h.block g (by omega) (fun hx => by have := (hq.lt hx).2; omega)).trans (hb.block g hg)⟩
def insT (T : List Nat) (t : Nat) : List Nat := T.take (T.countP (· < t)) ++ t :: T.drop (T.countP (· < t))
def updQ (Q : Nat → List Q4) (t : Nat) (l : List Q4) : Nat → List Q4 := fun s => if s = t then l else Q s
/-- A tick is inserted, and the row's head stored. -/
theorem Que.tick {w w2 : World} {q0 lb tb mb nm : Nat} {H : Nat → Value} {Q : Nat → List Q4} {A : Option Addr} {c : Nat} {T : List Nat} (h : Que w q0 lb tb mb nm H Q A c T) {A' : Option Addr} {c' : Nat} {T' : List Nat} (hk : TkR w2 q0 A' c' T') (hg : w.grownBy w2 (A.map (·.block)))
    (hn : ∀ a', A' = some a' → (∃ a, A = some a ∧ a.block = a'.block) ∨ w.heap.size ≤ a'.block) :
    Que (w2.setCell ⟨tb, 0, none⟩ (.slice A' T'.length c')) q0 lb tb mb nm H Q A' c' T' ∧ QFr w (w2.setCell ⟨tb, 0, none⟩ (.slice A' T'.length c')) lb tb mb H A H A' := by
  have hs := store_grown w2 tb 0 (.slice A' T'.length c')
  have hz := hg.size
  have hz2 := hs.size
  have hA : ∀ g, A.map (·.block) = some g ↔ ∃ a, A = some a ∧ a.block = g := fun g => by cases A <;> simp
  have keep : ∀ g, g < w.heap.size → g ≠ tb → (∀ a, A = some a → a.block ≠ g) → (w2.setCell ⟨tb, 0, none⟩ (.slice A' T'.length c')).heap[g]? = w.heap[g]? := fun g hlt h1 h2 =>
    (hs.block g (by omega) (fun e => h1 (by cases e; rfl))).trans (hg.block g hlt (fun e => by obtain ⟨a, ha, e2⟩ := (hA g).1 e.symm; exact h2 a ha e2))
  have ltb := (h.lt (.inr (.inl rfl) : QB lb tb mb H A tb)).1
  have llb := (h.lt (.inl rfl : QB lb tb mb H A lb)).1
  have lmb := h.mp.lt
  have hneq : ∀ a', A' = some a' → a'.block ≠ lb ∧ a'.block ≠ tb ∧ a'.block ≠ mb := fun a' ha' => by
    rcases hn a' ha' with ⟨a, ha, e⟩ | h1
    · rw [← e]; exact h.sepA a ha
    · omega
  have b1w : w2.cell? ⟨tb, 0, none⟩ = some (.slice A T.length c) := (World.cell?_of_block (a := ⟨tb, 0, none⟩) (hg.block tb ltb (fun e => by obtain ⟨a, ha, e2⟩ := (hA tb).1 e.symm; exact (h.sepA a ha).2.1 e2))).trans h.b1
  refine ⟨⟨?_, World.cell?_setCell_same _ _ _ b1w, ?_, ?_, ?_, fun t => ?_, h.dis, fun t g ht => ⟨(h.far t g ht).1, (h.far t g ht).2.1, (h.far t g ht).2.2.1, fun a' ha' e => ?_⟩, h.sep, hneq⟩, ?_⟩
  · exact (World.cell?_of_block (a := ⟨lb, 0, none⟩) (keep lb llb h.sep.1 (fun a ha => (h.sepA a ha).1))).trans h.b0
  · refine Fz.set ?_ _ _
    exact fun j => (World.frozen?_of_block (a := ⟨tb, j, none⟩) (hg.block tb ltb (fun e => by obtain ⟨a, ha, e2⟩ := (hA tb).1 e.symm; exact (h.sepA a ha).2.1 e2))).trans (h.zt j)
  · exact h.mp.same (keep mb lmb (Ne.symm h.sep.2.2.1) (fun a ha => (h.sepA a ha).2.2))
  · exact hk.kept hz2 (fun a ha => hs.block _ (by
      rcases hk.form with h1 | ⟨g, o, e, h1, h2, _⟩
      · rw [h1.1] at ha; cases ha
      · rw [e] at ha; cases ha; exact h2) (fun e => (hneq a ha).2.1 (by cases e; rfl)))
  · exact own_same (h.rows t) (fun g ht => keep g (h.lt (.inr (.inr (.inr (.inr ⟨t, ht⟩)))) : _ ∧ _).1 (h.far t g ht).2.1 (h.far t g ht).2.2.2)
  · rcases hn a' ha' with ⟨a, ha, e2⟩ | h1
    · exact (h.far t g ht).2.2.2 a ha (e2.trans e)
    · have := (h.lt (.inr (.inr (.inr (.inr ⟨t, ht⟩)))) : _ ∧ _).1
      omega
  · refine ⟨hs.os.trans hg.os, hs.tape.trans hg.tape, hs.output.trans hg.output, by omega, fun g hlt hq => keep g hlt (fun e => hq (.inr (.inl e))) (fun a ha e => hq (.inr (.inr (.inr (.inl ⟨a, ha, e⟩))))), fun g hgq => ?_⟩
    rcases hgq with e | e | e | ⟨a', ha', e⟩ | ht
    · exact .inl (.inl e)
    · exact .inl (.inr (.inl e))
    · exact .inl (.inr (.inr (.inl e)))
    · rcases hn a' ha' with ⟨a, ha, e2⟩ | h1
      · exact .inl (.inr (.inr (.inr (.inl ⟨a, ha, e2.trans e⟩))))
      · exact .inr (by omega)
    · exact .inl (.inr (.inr (.inr (.inr ht))))
/-- A hit is appended to the row of its tick, and the row's head stored in the map. -/
theorem Que.put {w w2 w3 : World} {q0 lb tb mb nm : Nat} {H : Nat → Value} {Q : Nat → List Q4} {A : Option Addr} {c : Nat} {T : List Nat} (h : Que w q0 lb tb mb nm H Q A c T) {t : Nat} {v : Value} {l : List Q4}
    (ho : w2.ownsRow q0 161 4 v l.length (l.flatMap Q4.e64)) (hg : w.grownBy w2 (H t).ownBlock) (hn : v.ownBlock = (H t).ownBlock ∨ ∀ k, v.ownBlock = some k → w.heap.size ≤ k)
    (hm : MapH w3 mb (nm + 1) (updV H t v)) (hg2 : w2.grownBy w3 (some mb)) :
    Que w3 q0 lb tb mb (nm + 1) (updV H t v) (updQ Q t l) A c T ∧ QFr w w3 lb tb mb H A (updV H t v) A := by
  have hz := hg.size
  have hz2 := hg2.size
  have ltb := (h.lt (.inr (.inl rfl) : QB lb tb mb H A tb)).1
  have llb := (h.lt (.inl rfl : QB lb tb mb H A lb)).1
  have lmb := h.mp.lt
  have keep : ∀ g, g < w.heap.size → g ≠ mb → (H t).ownBlock ≠ some g → w3.heap[g]? = w.heap[g]? := fun g hlt h1 h2 =>
    (hg2.block g (by omega) (fun e => h1 (by cases e; rfl))).trans (hg.block g hlt (fun e => h2 e.symm))
  have lta : ∀ a, A = some a → a.block < w.heap.size := fun a ha => (h.lt (.inr (.inr (.inr (.inl ⟨a, ha, rfl⟩)))) : _ ∧ _).1
  have hvb : ∀ g, v.ownBlock = some g → g ≠ lb ∧ g ≠ tb ∧ g ≠ mb ∧ ∀ a, A = some a → a.block ≠ g := fun g hv => by
    rcases hn with e | e
    · exact h.far t g (e ▸ hv)
    · have := e g hv
      exact ⟨by omega, by omega, by omega, fun a ha e2 => by have := lta a ha; omega⟩
  have kt : tb ≠ mb := h.sep.2.2.1
  refine ⟨⟨?_, ?_, ?_, hm, ?_, fun s => ?_, fun s s' hss g h1 h2 => ?_, fun s g hs => ?_, h.sep, h.sepA⟩, ?_⟩
  · exact (World.cell?_of_block (a := ⟨lb, 0, none⟩) (keep lb llb h.sep.2.1 (fun e => (h.far t lb e).1 rfl))).trans h.b0
  · exact (World.cell?_of_block (a := ⟨tb, 0, none⟩) (keep tb ltb kt (fun e => (h.far t tb e).2.1 rfl))).trans h.b1
  · exact fun j => (World.frozen?_of_block (a := ⟨tb, j, none⟩) (keep tb ltb kt (fun e => (h.far t tb e).2.1 rfl))).trans (h.zt j)
  · exact h.tk.kept (by omega) (fun a ha => keep _ (lta a ha) (h.sepA a ha).2.2 (fun e => (h.far t _ e).2.2.2 a ha rfl))
  · unfold updV updQ
    by_cases e : s = t
    · subst e
      rw [if_pos rfl, if_pos rfl]
      exact own_same ho (fun g hv => hg2.block g (ho.lt g hv).2 (fun e => (hvb g hv).2.2.1 (by cases e; rfl)))
    · rw [if_neg e, if_neg e]
      exact own_same (h.rows s) (fun g hs => keep g (h.lt (.inr (.inr (.inr (.inr ⟨s, hs⟩)))) : _ ∧ _).1 (h.far s g hs).2.2.1 (h.dis s t e g hs))
  · unfold updV at h1 h2
    have old : ∀ s0, s0 ≠ t → (H s0).ownBlock = some g → v.ownBlock ≠ some g := fun s0 hs0 h3 h4 => by
      rcases hn with e | e
      · exact h.dis s0 t hs0 g h3 (e ▸ h4)
      · have := e g h4
        have := (h.lt (.inr (.inr (.inr (.inr ⟨s0, h3⟩)))) : _ ∧ _).1
        omega
    by_cases e : s = t
    · rw [if_pos e] at h1
      rw [if_neg (fun e2 => hss (e.trans e2.symm))] at h2
      exact old s' (fun e2 => hss (e.trans e2.symm)) h2 h1
    · rw [if_neg e] at h1
      by_cases e2 : s' = t
      · rw [if_pos e2] at h2
        exact old s e h1 h2
      · rw [if_neg e2] at h2
        exact h.dis s s' hss g h1 h2
  · unfold updV at hs
    split at hs
    · exact hvb g hs
    · exact h.far s g hs
  · refine ⟨hg2.os.trans hg.os, hg2.tape.trans hg.tape, hg2.output.trans hg.output, by omega, fun g hlt hq => keep g hlt (fun e => hq (.inr (.inr (.inl e)))) (fun e => hq (.inr (.inr (.inr (.inr ⟨t, e⟩))))), fun g hgq => ?_⟩
    rcases hgq with e | e | e | e | ⟨s, hs⟩
    · exact .inl (.inl e)
    · exact .inl (.inr (.inl e))
    · exact .inl (.inr (.inr (.inl e)))
    · exact .inl (.inr (.inr (.inr (.inl e))))
    · unfold updV at hs
      split at hs
      · rcases hn with e | e
        · exact .inl (.inr (.inr (.inr (.inr ⟨t, e ▸ hs⟩))))
        · exact .inr (e g hs)
      · exact .inl (.inr (.inr (.inr (.inr ⟨s, hs⟩))))
def ltQ (p q : Q4) : Prop := p.a < q.a ∨ (p.a = q.a ∧ (p.b < q.b ∨ (p.b = q.b ∧ (p.c < q.c ∨ (p.c = q.c ∧ p.d < q.d)))))
end Go.Proofs.YthhfndifcdiomaaGreat
