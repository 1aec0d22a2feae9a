/-
  'append(s, x)' with one element, as the walk meets it; what a function that returns a slice hands back.
  Conditions: none; general lemmas.
-/
import Derived.Test.YtgkgklgeobbmlaaSmall
namespace Go.Proofs.Ytgkgklgeobbmlaa
open Go.RowKit
set_option linter.unusedSimpArgs false
set_option linter.unusedVariables false

theorem app_one {P : Program} {ops : Array Oper} {rest : List Oper} {o : Oper} {a : Act} {Q : Exit → Act → World → Prop} {w : World} (t e : TypeId) (z : Value) (size bytes : Nat) (ht : P.underlying t = some (.slice e)) (hinfo : (P.info? e).map (fun i => (i.zero, i.size, i.bytes)) = some (some z, size, bytes)) (hzs : z.cells.size = size) (hsz : 0 < size)
    (base : Nat) (v : Value) (n : Nat) (xs : List Value) (hown : w.ownsRow base e size v n xs) (hn : (n + 1) * bytes ≤ 140737488355328) (hb0 : 0 < bytes) (hbase : base ≤ w.heap.size)
    (news : List Value) (s x : Operand) (hgd : o.guard = none) (ho : o.op = .call { callee := .builtin .append, args := #[s, x], argTypes := #[t, t] }) (hs : a.eval s = v) (g : Nat) (hx : a.eval x = .slice (some ⟨g, 0, none⟩) 1 1) (hgz : g = w.heap.size) (hl : news.length = size) (h1 : ∀ u ∈ news, u.oneCell' = true)
    (h : ∀ A c w', w'.ownsRow base e size (.slice A (n + 1) c) (n + 1) (xs ++ news) → Below base w w' → w.grownBy w' v.ownBlock → ((Value.slice A (n + 1) c).ownBlock = v.ownBlock ∨ ∀ k, (Value.slice A (n + 1) c).ownBlock = some k → w.heap.size ≤ k) → wpList P ops Q rest (a.put o.dst (.slice A (n + 1) c)) w') :
    wpList P ops Q (o :: rest) a (w.alloc (.cells news.toArray e)) := by
  subst hgz
  refine app_many hgd s x t ho base e z size bytes ht hinfo hzs hsz v n xs hs (own_step hown ((Below.refl _ _).alloc (Nat.le_refl _) _)) (some ⟨w.heap.size, 0, none⟩) 1 1 news hx (by rw [hl, Nat.one_mul]) (fun _ => ⟨w.heap.size, 0, rfl, fun j u hu => ?_⟩) h1 (fun h => by omega) hn hb0 (by simp; omega) ?_
  · have : j < news.length := (List.getElem?_eq_some_iff.1 hu).1
    simp [go_sem, hu]
  · intro v' w' own hg hat
    obtain ⟨A, c, rfl⟩ := own_slice own
    have hg2 : w.grownBy w' v.ownBlock := (World.grownBy_alloc _ _ _).trans hg
    refine h A c w' own ?_ hg2 (hat.imp id fun e k hk => ?_)
    · exact below_own (Below.refl _ _) hown hbase hg2
    · rw [e] at hk; cases hk; simp
/-- A function hands back a slice of its own. -/
def ResR {α : Type} (enc : α → List Value) (n : Nat) (E : TypeId) (w : World) (R : List α) (e : Ending) (w' : World) : Prop :=
  ∃ A c, e = .returned (.slice A R.length c) ∧ Below w.heap.size w w' ∧ w'.ownsRow w.heap.size E n (.slice A R.length c) R.length (R.flatMap enc)
end Go.Proofs.Ytgkgklgeobbmlaa
