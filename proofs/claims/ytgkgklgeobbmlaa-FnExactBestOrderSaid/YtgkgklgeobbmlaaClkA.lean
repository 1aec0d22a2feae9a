/-
  The reference's clock: what it holds; the least push of a piece; whether a piece hits its neighbour.
  Conditions: the pieces, pushes and spans are right.
-/
import Derived.Test.YtgkgklgeobbmlaaClock
import Derived.Test.YtgkgklgeobbmlaaHits
import Derived.Test.YtgkgklgeobbmlaaCells
import Derived.Test.YtgkgklgeobbmlaaOb
namespace Go.Proofs.Ytgkgklgeobbmlaa
open Go.RowKit
set_option linter.unusedSimpArgs false
set_option linter.unusedVariables false

def puVal (x y s : Int) (p : Pu) : Nat := if p.x = x ∧ p.y = y ∧ p.s = s then p.t.toNat else big
def pushV (x y s : Int) : List Pu → Nat
  | [] => big
  | p :: ps => min (puVal x y s p) (pushV x y s ps)
theorem pushV_le (x y s : Int) : ∀ ps, pushV x y s ps ≤ big
  | [] => Nat.le_refl _
  | p :: ps => by have := pushV_le x y s ps; unfold pushV; omega
theorem pushV_append (x y s : Int) : ∀ a b, pushV x y s (a ++ b) = min (pushV x y s a) (pushV x y s b)
  | [], b => by have := pushV_le x y s b; simp only [List.nil_append, pushV]; omega
  | p :: a, b => by
    have := pushV_append x y s a b
    simp only [List.cons_append, pushV, this]
    omega
theorem pushV_take {x y s : Int} {ps : List Pu} {k : Nat} {p : Pu} (h : ps[k]? = some p) : pushV x y s (ps.take (k + 1)) = min (pushV x y s (ps.take k)) (puVal x y s p) := by
  rw [List.take_add_one, h, pushV_append]
  have : puVal x y s p ≤ big ∨ big < puVal x y s p := by omega
  have h2 := pushV_le x y s (ps.take k)
  simp only [Option.toList, pushV]
  omega
def nearI (xs : List Pc) (i s : Nat) : Int := match xs[i]? with
  | some p => idxOf (atC (nx p.x s) (ny p.y s)) xs
  | none => -1
def netOf (xs : List Pc) (ps : List Pu) (ss : List Sp) : Net where
  n := xs.length
  can i s := match xs[i]? with | some p => decide (0 ≤ hitsG p.k p.t s) | none => false
  hit i f t := match xs[i]? with | some p => decide (0 ≤ hitsG p.k p.t f) && bitI (hitsG p.k p.t f) t | none => false
  near i s := if nearI xs i s < 0 then none else some (nearI xs i s).toNat
  low i := match ss[i]? with | some x => x.lo.toNat | none => 1
  high i := match ss[i]? with | some x => x.hi.toNat | none => 1
  push i s := match xs[i]? with | some p => pushV p.x p.y s ps | none => big
structure ClkD where
  bb : Nat
  wi : Int
  hi : Int
  ap : Option Addr
  cp : Nat
  xs : List Pc
  al : Option Addr
  cl : Nat
  ps : List Pu
  sa : Option Addr
  sc : Nat
  ss : List Sp
  na : Option Addr
  nc : Nat
def ClkD.net (D : ClkD) : Net := netOf D.xs D.ps D.ss
/-- What the clock's box holds, but for the rows that turn. -/
structure Clk (w : World) (cb : Nat) (D : ClkD) : Prop where
  lt : cb < w.heap.size
  c0 : w.cell? ⟨cb, 0, none⟩ = some (.pointer (some ⟨D.bb, 0, none⟩))
  c1 : w.cell? ⟨cb, 1, none⟩ = some (.slice D.al D.ps.length D.cl)
  c2 : w.cell? ⟨cb, 2, none⟩ = some (.slice D.sa D.ss.length D.sc)
  c3 : w.cell? ⟨cb, 3, none⟩ = some (.slice D.na D.xs.length D.nc)
  bd : BdA w D.bb D.wi D.hi D.ap D.xs.length D.cp
  px : SlA Pc.enc 5 w D.ap D.xs
  pu : SlA Pu.enc 4 w D.al D.ps
  sp : SlA Sp.enc 2 w D.sa D.ss
  nr : 0 < D.xs.length → ∃ g, D.na = some ⟨g, 0, none⟩ ∧ g < w.heap.size ∧ ∀ i s, i < D.xs.length → s < 4 → w.cell? ⟨g, i * 4 + s, none⟩ = some (.int .i64 (nearI D.xs i s))
theorem Clk.below {w w1 : World} {cb : Nat} {D : ClkD} (h : Clk w cb D) (hb : Below w.heap.size w w1) : Clk w1 cb D :=
  ⟨Nat.lt_of_lt_of_le h.lt hb.size, cell_on hb h.c0, cell_on hb h.c1, cell_on hb h.c2, cell_on hb h.c3, h.bd.below hb h.bd.lt, h.px.below hb, h.pu.below hb, h.sp.below hb,
    fun hp => by
      obtain ⟨g, e, hl, hc⟩ := h.nr hp
      exact ⟨g, e, Nat.lt_of_lt_of_le hl hb.size, fun i s hi hs => cell_on hb (hc i s hi hs)⟩⟩
/-- What is right about it. -/
structure ClkD.Ok (D : ClkD) : Prop where
  n : D.xs.length ≤ 60
  m : D.ps.length ≤ 20
  len : D.ss.length = D.xs.length
  pc : ∀ p ∈ D.xs, (0 ≤ p.x ∧ p.x ≤ 23) ∧ (0 ≤ p.y ∧ p.y ≤ 23) ∧ (0 ≤ p.k ∧ p.k ≤ 5) ∧ (0 ≤ p.t ∧ p.t ≤ 3) ∧ (1 ≤ p.d ∧ p.d ≤ 9)
  pu : ∀ p ∈ D.ps, (0 ≤ p.x ∧ p.x ≤ 23) ∧ (0 ≤ p.y ∧ p.y ≤ 23) ∧ (0 ≤ p.s ∧ p.s ≤ 3) ∧ (0 ≤ p.t ∧ p.t ≤ 1000)
  sp : ∀ p ∈ D.ss, 1 ≤ p.lo ∧ p.lo ≤ p.hi ∧ p.hi ≤ 9
  one : ∀ (i j : Nat) p q, D.xs[i]? = some p → D.xs[j]? = some q → p.x = q.x → p.y = q.y → i = j
end Go.Proofs.Ytgkgklgeobbmlaa
