/-
  The map from ticks to rows of hits that a run makes: block b holds, for each tick, a slice's head.
  Conditions: the ticks are not too great.
-/
import Derived.Test.YthhfndifcdiomaaGreatStage2
import Derived.Test.YthhfndifcdiomaaGreatOb
import Derived.Maps.OwnOps
import Derived.Maps.Views
import Derived.Maps.Keyed
namespace Go.Proofs.YthhfndifcdiomaaGreat
open Go.RowKit
set_option linter.unusedSimpArgs false
set_option linter.unusedVariables false

def headR (v : Value) : Option (DataW Value × List MemPlace) := some (.held v, [])
def updV (H : Nat → Value) (t : Nat) (v : Value) : Nat → Value := fun s => if s = t then v else H s
theorem inLaw : Maps.Keyed Tryz.prog 3 := Maps.int_keyed Tryz.underlying3
theorem in_wf {t : Nat} (h : t < 4611686018427387904) : (Lit.int .i64 (t : Int)).wf = true := WalkArith.wf_i64 ⟨by omega, by omega⟩
theorem inKey_of {t : Nat} (h : t < 4611686018427387904) : keyOf Tryz.prog 3 (.int .i64 (t : Int)) = some (.int .i64 (t : Int)) := Maps.keyOf_int_mk Tryz.underlying3 (in_wf h)
theorem rowZero (w : World) : (zeroValue 162).run Tryz.prog w = .ok (.slice none 0 0) w := by kernel_rfl
/-- Block b is a map of at most n ticks: each has its head. -/
def MapH (w : World) (b n : Nat) (H : Nat → Value) : Prop :=
  ∃ D : DataW Value, w.ownsMap Tryz.prog 3 headR b n D ∧ Maps.IsMap D ∧ ∀ t : Nat, t < 4611686018427387904 → D.atKey (.int .i64 (t : Int)) (.held (.slice none 0 0)) = .held (H t)
theorem mapH_made (w : World) : MapH (w.alloc (.map #[] 0)) w.heap.size 0 (fun _ => .slice none 0 0) :=
  ⟨_, World.ownsMap_made w _ _ _, Maps.isMap_empty, fun _ _ => rfl⟩
theorem MapH.lt {w : World} {b n : Nat} {H : Nat → Value} (h : MapH w b n H) : b < w.heap.size := by
  obtain ⟨D, h1, _⟩ := h
  exact h1.lt
theorem MapH.same {w w1 : World} {b n : Nat} {H : Nat → Value} (h : MapH w b n H) (e : w1.heap[b]? = w.heap[b]?) : MapH w1 b n H := by
  obtain ⟨D, ⟨es, clock, h1, h2⟩, h3⟩ := h
  exact ⟨D, ⟨es, clock, e.trans h1, h2⟩, h3⟩
theorem MapH.mono {w : World} {b n m : Nat} {H : Nat → Value} (h : MapH w b n H) (hm : n ≤ m) : MapH w b m H := by
  obtain ⟨D, h1, h3⟩ := h
  exact ⟨D, h1.mono hm, h3⟩
set_option maxRecDepth 100000 in
theorem MapH.look {w : World} {b n : Nat} {H : Nat → Value} (h : MapH w b n H) {t : Nat} (ht : t < 4611686018427387904) : (Instr.lookup 177 (.map (some b)) (.int .i64 (t : Int)) false).run Tryz.prog w = .ok (H t) w := by
  obtain ⟨D, h1, h2, h3⟩ := h
  obtain ⟨v, ps, hr, hv⟩ := h1.lookup inLaw Tryz.underlying177 (z := .slice none 0 0) (rowZero w) (zd := .held (.slice none 0 0)) (zp := []) rfl (inKey_of ht)
  rw [h3 t ht] at hv
  unfold headR at hv
  injection hv with hv
  injection hv with hv _
  injection hv with hv
  rw [hr, hv]
set_option maxRecDepth 100000 in
theorem MapH.store {w : World} {b n : Nat} {H : Nat → Value} (h : MapH w b n H) (hn : n < maxLen) {t : Nat} (ht : t < 4611686018427387904) (v : Value) :
    ∃ w', (Instr.mapUpdate 177 (.map (some b)) (.int .i64 (t : Int)) v).run Tryz.prog w = .ok () w' ∧ MapH w' b (n + 1) (updV H t v) ∧ w.grownBy w' (some b) := by
  obtain ⟨D, h1, h2, h3⟩ := h
  obtain ⟨w', hr, ho, hg⟩ := h1.update inLaw Tryz.underlying177 hn (inKey_of ht) (val := v) (d := .held v) (ps := []) rfl
  refine ⟨w', hr, ⟨_, ho, h2.put _ _, fun s hs => ?_⟩, hg⟩
  unfold updV
  by_cases e : s = t
  · subst e
    rw [Maps.atKey_put_same h2 (inLaw.key (inKey_of ht)), if_pos rfl]
  · rw [if_neg e, Maps.atKey_put_other (fun ek => e ?_), h3 s hs]
    injection ek with _ ek
    omega
end Go.Proofs.YthhfndifcdiomaaGreat
