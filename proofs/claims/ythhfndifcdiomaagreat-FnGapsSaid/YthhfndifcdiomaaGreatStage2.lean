/-
  The stage of a board, the program's: words for it.
  The stage of a board, the program's: the statement that appends to its three rows, in whatever order.
  The stage of a board, the program's: the statement that appends to its three rows, in whatever order.
  Conditions: the board is right, at most 200 pieces. none.
-/
import Derived.Test.YthhfndifcdiomaaGreatPlace
import Derived.Test.YthhfndifcdiomaaGreatFallsB
import Derived.Test.YthhfndifcdiomaaGreatClkN
import Derived.Test.YthhfndifcdiomaaGreatCells
import Derived.Test.YthhfndifcdiomaaGreatWin
import Derived.Test.YthhfndifcdiomaaGreatApp
import Derived.Test.YthhfndifcdiomaaGreatApp3
import Derived.Deep.RegionLaw
import Derived.Deep.RegionHeld3
import Derived.Deep.CutRange
namespace Go.Proofs.YthhfndifcdiomaaGreat
open Go.RowKit
set_option linter.unusedSimpArgs false
set_option linter.unusedVariables false

/-- Four numbers. -/
structure Q4 where
  a : Int
  b : Int
  c : Int
  d : Int
def Q4.e8 (q : Q4) : List Value := [.int .u8 q.a, .int .u8 q.b, .int .u8 q.c, .int .u8 q.d]
def Q4.e64 (q : Q4) : List Value := [.int .i64 q.a, .int .i64 q.b, .int .i64 q.c, .int .i64 q.d]
def en8 (x : Int) : List Value := [.int .u8 x]
def canP (p : Pc) (s : Nat) : Bool := decide (0 ≤ hitsG p.k p.t s)
def canL (xs : List Pc) : List Int := xs.map fun p => sBits (canP p)
def hitQ (p : Pc) : Q4 := ⟨mx (hitsG p.k p.t 0), mx (hitsG p.k p.t 1), mx (hitsG p.k p.t 2), mx (hitsG p.k p.t 3)⟩
def hitL (xs : List Pc) : List Q4 := xs.map hitQ
def besQ (xs : List Pc) (i : Nat) : Q4 := ⟨nearI xs i 0, nearI xs i 1, nearI xs i 2, nearI xs i 3⟩
def besL (xs : List Pc) : Nat → List Q4
  | 0 => []
  | k + 1 => besL xs k ++ [besQ xs k]
theorem besL_length (xs : List Pc) : ∀ k, (besL xs k).length = k
  | 0 => rfl
  | k + 1 => by simp [besL, besL_length xs k]
theorem besL_get (xs : List Pc) : ∀ k i, i < k → (besL xs k)[i]? = some (besQ xs i)
  | 0, i, h => by omega
  | k + 1, i, h => by
    rcases Nat.lt_or_ge i k with h1 | h1
    · rw [besL, List.getElem?_append_left (by rw [besL_length]; exact h1)]
      exact besL_get xs k i h1
    · obtain rfl : i = k := by omega
      rw [besL, List.getElem?_append_right (by rw [besL_length]; omega), besL_length]
      simp
/-- Where a stage lies. -/
structure StgD where
  sb : Nat
  ap : Option Addr
  cp : Nat
  xs : List Pc
  ca : Option Addr
  cc : Nat
  ha : Option Addr
  hc : Nat
  ba : Option Addr
  bc : Nat
structure Stg (w : World) (T : StgD) : Prop where
  c0 : w.cell? ⟨T.sb, 0, none⟩ = some (.slice T.ap T.xs.length T.cp)
  c1 : w.cell? ⟨T.sb, 1, none⟩ = some (.slice T.ca T.xs.length T.cc)
  c2 : w.cell? ⟨T.sb, 2, none⟩ = some (.slice T.ha T.xs.length T.hc)
  c3 : w.cell? ⟨T.sb, 3, none⟩ = some (.slice T.ba T.xs.length T.bc)
  px : SlA Pc.enc 5 w T.ap T.xs
  cn : SlA en8 1 w T.ca (canL T.xs)
  ht : SlA Q4.e8 4 w T.ha (hitL T.xs)
  bs : SlA Q4.e64 4 w T.ba (besL T.xs T.xs.length)
theorem Stg.below {w w1 : World} {T : StgD} (h : Stg w T) (hb : Below w.heap.size w w1) : Stg w1 T :=
  ⟨cell_on hb h.c0, cell_on hb h.c1, cell_on hb h.c2, cell_on hb h.c3, h.px.below hb, h.cn.below hb, h.ht.below hb, h.bs.below hb⟩
/-- Which cell bears which piece, so far. -/
def plF (xs : List Pc) (k : Nat) (x y : Int) : Int := idxOf (atC x y) (xs.take k)
theorem plF_zero (xs : List Pc) : plF xs 0 = fun _ _ => -1 := by funext x y; rfl
theorem plF_step {xs : List Pc} {k : Nat} {p : Pc} (hp : xs[k]? = some p) (one : ∀ (i j : Nat) p q, xs[i]? = some p → xs[j]? = some q → p.x = q.x → p.y = q.y → i = j) (u v : Int) :
    (if u = p.x ∧ v = p.y then (k : Int) else plF xs k u v) = plF xs (k + 1) u v := by
  have hk := (List.getElem?_eq_some_iff.1 hp).1
  have hl : (xs.take k).length = k := by simp; omega
  unfold plF
  rw [List.take_add_one, hp, Option.toList, idxOf_snoc, hl]
  by_cases e : u = p.x ∧ v = p.y
  · obtain ⟨rfl, rfl⟩ := e
    have : (xs.take k).any (atC p.x p.y) = false := by
      rw [List.any_eq_false]
      intro q hq hat
      obtain ⟨j, hj, e⟩ := List.mem_take_iff_getElem.1 hq
      unfold atC at hat
      simp only [decide_eq_true_eq] at hat
      have := one j k q p (by rw [List.getElem?_eq_getElem (by omega), e]) hp hat.1 hat.2
      omega
    rw [if_pos ⟨rfl, rfl⟩, this]
    simp [atC]
  · have hat : atC u v p = false := by
      unfold atC
      rw [decide_eq_false_iff_not]
      intro h; exact e ⟨h.1.symm, h.2.symm⟩
    rw [if_neg e, hat]
    cases h : (xs.take k).any (atC u v) with
    | true => simp
    | false => simp [idxOf_none h]
def qTo (f : Nat → Int) (s j : Nat) : Int := if j < s then f j else 0
theorem qTo_set (f : Nat → Int) (s : Nat) : qTo f (s + 1) s = f s := by unfold qTo; rw [if_pos (by omega)]
theorem qTo_ne (f : Nat → Int) {s j : Nat} (h : j ≠ s) : qTo f (s + 1) j = qTo f s j := by
  unfold qTo
  by_cases h1 : j < s
  · rw [if_pos h1, if_pos (by omega)]
  · rw [if_neg h1, if_neg (by omega)]
theorem orB_zero {s : Nat} (hs : s < 4) : orB 0 s = 2 ^ s := by
  have : s = 0 ∨ s = 1 ∨ s = 2 ∨ s = 3 := by omega
  rcases this with rfl | rfl | rfl | rfl <;> decide
/-- A frame that differs from another one in some slots alone. -/
theorem act_of {a : Act} : ∀ (ds : List Nat) (a0 : Act), a.tmps.size = a0.tmps.size → a.defers = a0.defers → (∀ t, t ∉ ds → a.tmps[t]? = a0.tmps[t]?) → a = ds.foldl (fun b d => b.put (some d) (a.eval (.tmp d))) a0
  | [], a0, hs, hd, h => by
    have : a.tmps = a0.tmps := by
      apply Array.ext hs
      intro i h1 h2
      have := h i (by simp)
      rw [Array.getElem?_eq_getElem h1, Array.getElem?_eq_getElem h2] at this
      exact Option.some.inj this
    cases a; cases a0; simp_all
  | d :: ds, a0, hs, hd, h => by
    rw [List.foldl_cons]
    refine act_of ds _ ?_ ?_ (fun t ht => ?_)
    · simp [Act.put, hs]
    · exact hd
    · simp only [Act.put]
      by_cases e : d = t
      · subst e
        rcases Nat.lt_or_ge d a.tmps.size with h1 | h1
        · rw [Array.getElem?_setIfInBounds_self_of_lt (by omega), Array.getElem?_eq_getElem h1]
          simp [Act.eval, Array.getD_eq_getD_getElem?, Array.getElem?_eq_getElem h1]
        · rw [Array.getElem?_eq_none h1, Array.getElem?_eq_none (by simp; omega)]
      · rw [Array.getElem?_setIfInBounds_ne e]
        exact h t (by simp [ht]; exact fun e2 => e e2.symm)
def ds22 : List Nat := [90, 92, 93, 97, 98, 99, 100, 104, 105, 106, 107]
/-- What holds when some of the statement's operations have come up. -/
structure Mid3 (a0 : Act) (W : World) (base hb bb : Nat) (V1 V2 V3 : Value) (k : Nat) (L1 L2 L3 N1 N2 N3 : List Value) (D : Nat → Bool) (a : Act) (w : World) : Prop where
  sz : a.tmps.size = a0.tmps.size
  df : a.defers = a0.defers
  fr : ∀ t, t ∉ ds22 → a.tmps[t]? = a0.tmps[t]?
  st : ∃ β γ : Nat → Option Nat, Dst β γ w.heap.size ∧ γ 3 = some hb ∧ γ 4 = some bb ∧
    Chn w base 110 1 V1 k L1 N1 (D 6) (D 8) (D 9) (a.eval (.tmp 90)) (a.eval (.tmp 92)) (a.eval (.tmp 93)) (β 0) (γ 0) ∧
    Chn w base 111 4 V2 k L2 N2 (D 13) (D 15) (D 16) (a.eval (.tmp 97)) (a.eval (.tmp 99)) (a.eval (.tmp 100)) (β 1) (γ 1) ∧
    Chn w base 112 4 V3 k L3 N3 (D 20) (D 22) (D 23) (a.eval (.tmp 104)) (a.eval (.tmp 106)) (a.eval (.tmp 107)) (β 2) (γ 2)
  l14 : D 14 = true → a.eval (.tmp 98) = .agg N2.toArray
  l21 : D 21 = true → a.eval (.tmp 105) = .agg N3.toArray
  hc : ∀ j u, N2[j]? = some u → w.cell? ⟨hb, j, none⟩ = some u
  bc : ∀ j u, N3[j]? = some u → w.cell? ⟨bb, j, none⟩ = some u
  bl : Below base W w
  c9 : D 9 = true → D 6 = true ∧ D 8 = true
  c15 : D 15 = true → D 14 = true
  c16 : D 16 = true → D 13 = true ∧ D 15 = true ∧ D 9 = true
  c22 : D 22 = true → D 21 = true
  c23 : D 23 = true → D 20 = true ∧ D 22 = true ∧ D 16 = true
section
variable {a0 : Act} {W : World} {base hb bb : Nat} {V1 V2 V3 : Value} {k : Nat} {L1 L2 L3 N1 N2 N3 : List Value} {D : Nat → Bool} {a : Act} {w : World}
theorem Mid3.ev (h : Mid3 a0 W base hb bb V1 V2 V3 k L1 L2 L3 N1 N2 N3 D a w) {t : Nat} (ht : t ∉ ds22) : a.eval (.tmp t) = a0.eval (.tmp t) := by
  have := h.fr t ht
  simp only [Act.eval, Array.getD_eq_getD_getElem?, this]
theorem Mid3.last (h : Mid3 a0 W base hb bb V1 V2 V3 k L1 L2 L3 N1 N2 N3 D a w) (hd : D 23 = true) : ∀ r ∈ (([(6, []), (8, []), (9, [6, 8]), (13, []), (14, []), (15, [14]), (16, [13, 15, 9]), (20, []), (21, []), (22, [21]), (23, [20, 22, 16])] : List (Nat × List Nat)).map (·.1)), D r = true := by
  obtain ⟨h20, h22, h16⟩ := h.c23 hd
  obtain ⟨h13, h15, h9⟩ := h.c16 h16
  obtain ⟨h6, h8⟩ := h.c9 h9
  have h14 := h.c15 h15
  have h21 := h.c22 h22
  intro r hr
  simp only [List.map_cons, List.map_nil, List.mem_cons, List.not_mem_nil, or_false] at hr
  rcases hr with rfl | rfl | rfl | rfl | rfl | rfl | rfl | rfl | rfl | rfl | rfl <;> assumption
end
theorem ev_put_same {a : Act} {d : Nat} {v : Value} (h : d < a.tmps.size) : (a.put (some d) v).eval (.tmp d) = v := by
  simp [Act.eval, Act.put, Array.getD_eq_getD_getElem?, h]
theorem ev_put_ne {a : Act} {d t : Nat} {v : Value} (h : d ≠ t) : (a.put (some d) v).eval (.tmp t) = a.eval (.tmp t) := by
  simp [Act.eval, Act.put, Array.getD_eq_getD_getElem?, Array.getElem?_setIfInBounds_ne h]
theorem fr_put {a a0 : Act} {d : Nat} {v : Value} (h : ∀ t, t ∉ ds22 → a.tmps[t]? = a0.tmps[t]?) (hd : d ∈ ds22) : ∀ t, t ∉ ds22 → (a.put (some d) v).tmps[t]? = a0.tmps[t]? := by
  intro t ht
  have : d ≠ t := fun e => ht (e ▸ hd)
  simp only [Act.put]
  rw [Array.getElem?_setIfInBounds_ne this]
  exact h t ht
/-- The rows of the stage, so far. -/
structure Grw (w : World) (base sb : Nat) (a : Option Addr) (n c : Nat) (xs : List Pc) (k : Nat) (A1 : Option Addr) (c1 : Nat) (A2 : Option Addr) (c2 : Nat) (A3 : Option Addr) (c3 : Nat) : Prop where
  bx : Wx w sb (.slice a n c) (.slice A1 k c1) (.slice A2 k c2) (.slice A3 k c3)
  fz : Fz w sb
  r1 : w.ownsRow base 110 1 (.slice A1 k c1) k ((canL (xs.take k)).flatMap en8)
  r2 : w.ownsRow base 111 4 (.slice A2 k c2) k ((hitL (xs.take k)).flatMap Q4.e8)
  r3 : w.ownsRow base 112 4 (.slice A3 k c3) k ((besL xs k).flatMap Q4.e64)
  d12 : ∀ q, (Value.slice A1 k c1).ownBlock = some q → (Value.slice A2 k c2).ownBlock ≠ some q
  d13 : ∀ q, (Value.slice A1 k c1).ownBlock = some q → (Value.slice A3 k c3).ownBlock ≠ some q
  d23 : ∀ q, (Value.slice A2 k c2).ownBlock = some q → (Value.slice A3 k c3).ownBlock ≠ some q
theorem Grw.below {w w1 : World} {base sb : Nat} {a : Option Addr} {n c : Nat} {xs : List Pc} {k : Nat} {A1 : Option Addr} {c1 : Nat} {A2 : Option Addr} {c2 : Nat} {A3 : Option Addr} {c3 : Nat} (h : Grw w base sb a n c xs k A1 c1 A2 c2 A3 c3) (hb : Below w.heap.size w w1) : Grw w1 base sb a n c xs k A1 c1 A2 c2 A3 c3 :=
  ⟨h.bx.below hb h.bx.lt, h.fz.below hb h.bx.lt, own_step h.r1 hb, own_step h.r2 hb, own_step h.r3 hb, h.d12, h.d13, h.d23⟩
/-- An operation of the region, by its parts. -/
def OpIs (ops : Array Oper) (i d : Nat) (op : Op) : Prop := ∃ o, ops[i]? = some o ∧ o.guard = none ∧ o.dst = some d ∧ o.op = op
theorem wp_step {P : Program} {ops : Array Oper} {Q : Exit → Act → World → Prop} {i d : Nat} {op : Op} (h : OpIs ops i d op) {K : Act → World → Prop} {a : Act} {w : World}
    (hw : ∀ o : Oper, o.guard = none → o.dst = some d → o.op = op → ∀ K' : Act → World → Prop, (∀ v w', K (a.put (some d) v) w' → K' (a.put (some d) v) w') → o.wp P a w K' Q) : wpOp P ops Q i K a w := by
  obtain ⟨o, ho, hg, hd, hop⟩ := h
  exact wpOp_of ho hg fun K' hK => hw o hg hd hop K' fun v w' => hK.out _ _
theorem ev_raw {a : Act} {x : Nat} {v : Value} (he : a.eval (.tmp x) = v) : a.tmps[x]?.getD undef = v := by
  simpa [Act.eval, Array.getD_eq_getD_getElem?] using he
theorem ld_a {a : Act} {w : World} {o : Oper} {d x : Nat} {Q : Exit → Act → World → Prop} {K' : Act → World → Prop} {ad : Addr} {v : Value} (hd : o.dst = some d) (hop : o.op = .load 104 (.tmp x)) (he : a.eval (.tmp x) = .pointer (some ad)) (hc : w.cell? ad = some v) (h : K' (a.put (some d) v) w) : o.wp Tryz.prog a w K' Q := by
  unfold Oper.wp execOp
  rw [hop]
  simp only [he, hd]
  go_simp
  exact h
theorem ld_b {a : Act} {w : World} {o : Oper} {d x : Nat} {Q : Exit → Act → World → Prop} {K' : Act → World → Prop} {ad : Addr} {v : Value} (hd : o.dst = some d) (hop : o.op = .load 105 (.tmp x)) (he : a.eval (.tmp x) = .pointer (some ad)) (hc : w.cell? ad = some v) (h : K' (a.put (some d) v) w) : o.wp Tryz.prog a w K' Q := by
  unfold Oper.wp execOp
  rw [hop]
  simp only [he, hd]
  go_simp
  exact h
theorem ld_c {a : Act} {w : World} {o : Oper} {d x : Nat} {Q : Exit → Act → World → Prop} {K' : Act → World → Prop} {ad : Addr} {v : Value} (hd : o.dst = some d) (hop : o.op = .load 106 (.tmp x)) (he : a.eval (.tmp x) = .pointer (some ad)) (hc : w.cell? ad = some v) (h : K' (a.put (some d) v) w) : o.wp Tryz.prog a w K' Q := by
  unfold Oper.wp execOp
  rw [hop]
  simp only [he, hd]
  go_simp
  exact h
theorem ld_4a {a : Act} {w : World} {o : Oper} {d x b : Nat} {Q : Exit → Act → World → Prop} {K' : Act → World → Prop} {v0 v1 v2 v3 : Int} (hd : o.dst = some d) (hop : o.op = .load 111 (.tmp x)) (he : a.eval (.tmp x) = .pointer (some ⟨b, 0, none⟩)) (h0 : w.cell? ⟨b, 0, none⟩ = some (.int .u8 v0)) (h1 : w.cell? ⟨b, 1, none⟩ = some (.int .u8 v1)) (h2 : w.cell? ⟨b, 2, none⟩ = some (.int .u8 v2)) (h3 : w.cell? ⟨b, 3, none⟩ = some (.int .u8 v3)) (h : K' (a.put (some d) (.agg #[.int .u8 v0, .int .u8 v1, .int .u8 v2, .int .u8 v3])) w) : o.wp Tryz.prog a w K' Q := by
  unfold Oper.wp execOp
  rw [hop]
  simp only [he, hd]
  go_simp
  exact h
theorem ld_4b {a : Act} {w : World} {o : Oper} {d x b : Nat} {Q : Exit → Act → World → Prop} {K' : Act → World → Prop} {v0 v1 v2 v3 : Int} (hd : o.dst = some d) (hop : o.op = .load 112 (.tmp x)) (he : a.eval (.tmp x) = .pointer (some ⟨b, 0, none⟩)) (h0 : w.cell? ⟨b, 0, none⟩ = some (.int .i64 v0)) (h1 : w.cell? ⟨b, 1, none⟩ = some (.int .i64 v1)) (h2 : w.cell? ⟨b, 2, none⟩ = some (.int .i64 v2)) (h3 : w.cell? ⟨b, 3, none⟩ = some (.int .i64 v3)) (h : K' (a.put (some d) (.agg #[.int .i64 v0, .int .i64 v1, .int .i64 v2, .int .i64 v3])) w) : o.wp Tryz.prog a w K' Q := by
  unfold Oper.wp execOp
  rw [hop]
  simp only [he, hd]
  go_simp
  exact h
theorem bs_a {a : Act} {w : World} {o : Oper} {d x : Nat} {Q : Exit → Act → World → Prop} {K' : Act → World → Prop} {v : Int} (hd : o.dst = some d) (hop : o.op = .buildSlice 104 1 #[(0, .tmp x)]) (he : a.eval (.tmp x) = .int .u8 v) (h : K' (a.put (some d) (.slice (some ⟨w.heap.size, 0, none⟩) 1 1)) (w.alloc (.cells #[.int .u8 v] 110))) : o.wp Tryz.prog a w K' Q := by
  have he2 := ev_raw he
  unfold Oper.wp execOp
  rw [hop]
  simp only [he, hd]
  go_simp
  exact h
theorem bs_4a {a : Act} {w : World} {o : Oper} {d x : Nat} {Q : Exit → Act → World → Prop} {K' : Act → World → Prop} {v0 v1 v2 v3 : Int} (hd : o.dst = some d) (hop : o.op = .buildSlice 105 1 #[(0, .tmp x)]) (he : a.eval (.tmp x) = .agg #[.int .u8 v0, .int .u8 v1, .int .u8 v2, .int .u8 v3]) (h : K' (a.put (some d) (.slice (some ⟨w.heap.size, 0, none⟩) 1 1)) (w.alloc (.cells #[.int .u8 v0, .int .u8 v1, .int .u8 v2, .int .u8 v3] 111))) : o.wp Tryz.prog a w K' Q := by
  have he2 := ev_raw he
  unfold Oper.wp execOp
  rw [hop]
  simp only [he, hd]
  go_simp
  exact h
theorem bs_4b {a : Act} {w : World} {o : Oper} {d x : Nat} {Q : Exit → Act → World → Prop} {K' : Act → World → Prop} {v0 v1 v2 v3 : Int} (hd : o.dst = some d) (hop : o.op = .buildSlice 106 1 #[(0, .tmp x)]) (he : a.eval (.tmp x) = .agg #[.int .i64 v0, .int .i64 v1, .int .i64 v2, .int .i64 v3]) (h : K' (a.put (some d) (.slice (some ⟨w.heap.size, 0, none⟩) 1 1)) (w.alloc (.cells #[.int .i64 v0, .int .i64 v1, .int .i64 v2, .int .i64 v3] 112))) : o.wp Tryz.prog a w K' Q := by
  have he2 := ev_raw he
  unfold Oper.wp execOp
  rw [hop]
  simp only [he, hd]
  go_simp
  exact h
set_option maxRecDepth 100000 in
set_option maxHeartbeats 1000000 in
theorem app3 {Q : Exit → Act → World → Prop} {ops : Array Oper} {b : Nat → Bool} {f0 : Nat} (hB : phaseB .any ops 33 b ([(6, []), (8, []), (9, [6, 8]), (13, []), (14, []), (15, [14]), (16, [13, 15, 9]), (20, []), (21, []), (22, [21]), (23, [20, 22, 16])] : List (Nat × List Nat)) 23 = true)
    (o6 : OpIs ops 6 90 (.load 104 (.tmp 89)))
    (o8 : OpIs ops 8 92 (.buildSlice 104 1 #[(0, .tmp 91)]))
    (o9 : OpIs ops 9 93 (.call { callee := .builtin .append, args := #[.tmp 90, .tmp 92], argTypes := #[ 104, 104 ] }))
    (o13 : OpIs ops 13 97 (.load 105 (.tmp 96)))
    (o15 : OpIs ops 15 99 (.buildSlice 105 1 #[(0, .tmp 98)]))
    (o16 : OpIs ops 16 100 (.call { callee := .builtin .append, args := #[.tmp 97, .tmp 99], argTypes := #[ 105, 105 ] }))
    (o20 : OpIs ops 20 104 (.load 106 (.tmp 103)))
    (o22 : OpIs ops 22 106 (.buildSlice 106 1 #[(0, .tmp 105)]))
    (o23 : OpIs ops 23 107 (.call { callee := .builtin .append, args := #[.tmp 104, .tmp 106], argTypes := #[ 106, 106 ] }))
    (o14 : OpIs ops 14 98 (.load 111 (.tmp 10))) (o21 : OpIs ops 21 105 (.load 112 (.tmp 11)))
    (a0 : Act) (W : World) (base sb hb bb : Nat) (X V1 V2 V3 : Value) (k : Nat) (L1 L2 L3 : List Value) (v u0 u1 u2 u3 n0 n1 n2 n3 : Int) (hk : k ≤ 1000)
    (hs : 108 ≤ a0.tmps.size) (e89 : a0.eval (.tmp 89) = .pointer (some ⟨sb, 1, none⟩)) (e91 : a0.eval (.tmp 91) = .int .u8 v) (e96 : a0.eval (.tmp 96) = .pointer (some ⟨sb, 2, none⟩)) (e10 : a0.eval (.tmp 10) = .pointer (some ⟨hb, 0, none⟩)) (e103 : a0.eval (.tmp 103) = .pointer (some ⟨sb, 3, none⟩)) (e11 : a0.eval (.tmp 11) = .pointer (some ⟨bb, 0, none⟩))
    (bx : Wx W sb X V1 V2 V3) (hsb : sb < base) (hbs : base ≤ W.heap.size) (r1 : W.ownsRow base 110 1 V1 k L1) (r2 : W.ownsRow base 111 4 V2 k L2) (r3 : W.ownsRow base 112 4 V3 k L3)
    (d12 : ∀ q, V1.ownBlock = some q → V2.ownBlock ≠ some q) (d13 : ∀ q, V1.ownBlock = some q → V3.ownBlock ≠ some q) (d23 : ∀ q, V2.ownBlock = some q → V3.ownBlock ≠ some q)
    (hlo : ∀ q, (V1.ownBlock = some q ∨ V2.ownBlock = some q ∨ V3.ownBlock = some q) → q < hb ∧ q < bb)
    (hc : ∀ j u, ([.int .u8 u0, .int .u8 u1, .int .u8 u2, .int .u8 u3] : List Value)[j]? = some u → W.cell? ⟨hb, j, none⟩ = some u) (bc : ∀ j u, ([.int .i64 n0, .int .i64 n1, .int .i64 n2, .int .i64 n3] : List Value)[j]? = some u → W.cell? ⟨bb, j, none⟩ = some u)
    (fin : ∀ a w, Mid3 a0 W base hb bb V1 V2 V3 k L1 L2 L3 [.int .u8 v] [.int .u8 u0, .int .u8 u1, .int .u8 u2, .int .u8 u3] [.int .i64 n0, .int .i64 n1, .int .i64 n2, .int .i64 n3] (fun j => decide (j ∈ ([(6, []), (8, []), (9, [6, 8]), (13, []), (14, []), (15, [14]), (16, [13, 15, 9]), (20, []), (21, []), (22, [21]), (23, [20, 22, 16])] : List (Nat × List Nat)).map (·.1))) a w → wpAny Tryz.prog .any ops Q f0 (lst 33 b (fun j => decide (j ∈ ([(6, []), (8, []), (9, [6, 8]), (13, []), (14, []), (15, [14]), (16, [13, 15, 9]), (20, []), (21, []), (22, [21]), (23, [20, 22, 16])] : List (Nat × List Nat)).map (·.1)))) a w) :
    wpAny Tryz.prog .any ops Q (f0 + unl (fun _ => false) (([(6, []), (8, []), (9, [6, 8]), (13, []), (14, []), (15, [14]), (16, [13, 15, 9]), (20, []), (21, []), (22, [21]), (23, [20, 22, 16])] : List (Nat × List Nat)).map (·.1))) (lst 33 b (fun _ => false)) a0 W.drew := by
  have hBd : Below W.heap.size W W.drew := (Below.refl _ _).drew
  refine wpAny_state (Mid3 a0 W base hb bb V1 V2 V3 k L1 L2 L3 [.int .u8 v] [.int .u8 u0, .int .u8 u1, .int .u8 u2, .int .u8 u3] [.int .i64 n0, .int .i64 n1, .int .i64 n2, .int .i64 n3]) hB (fun D aa ww hM q hq hDq hdq => ?_) (fun D aa ww hM hd => hM.last hd) fin (fun _ => false) a0 _ (fun _ _ => rfl) ?_
  · have hsa : 108 ≤ aa.tmps.size := by rw [hM.sz]; exact hs
    obtain ⟨β, γ, hD, h3, h4, g1, g2, g3⟩ := hM.st
    have hbw : base ≤ ww.heap.size := Nat.le_trans hbs hM.bl.size
    have hBox : ∀ j u, W.cell? ⟨sb, j, none⟩ = some u → ww.cell? ⟨sb, j, none⟩ = some u := fun j u h => (hM.bl.cell (p := ⟨sb, j, none⟩) hsb).trans h
    simp only [List.mem_cons, List.not_mem_nil, or_false] at hq
    rcases hq with rfl | rfl | rfl | rfl | rfl | rfl | rfl | rfl | rfl | rfl | rfl
    · have hp : ∀ (v : Value) t, t ≠ 90 → (aa.put (some 90) v).eval (.tmp t) = aa.eval (.tmp t) := fun v t h => ev_put_ne (Ne.symm h)
      refine wp_step o6 fun o hg hd hop K' hK => ?_
      refine ld_a hd hop ((hM.ev (by decide)).trans e89) (hBox _ _ bx.x1) (hK _ _ ?_)
      refine ⟨by simp [Act.put, hM.sz], hM.df, fr_put hM.fr (by decide), ⟨β, γ, hD, h3, h4, (by rw [ev_put_same (by omega), hp _ 92 (by decide), hp _ 93 (by decide)]; exact g1.load), (by rw [hp _ 97 (by decide), hp _ 99 (by decide), hp _ 100 (by decide)]; exact g2), (by rw [hp _ 104 (by decide), hp _ 106 (by decide), hp _ 107 (by decide)]; exact g3)⟩, fun h => (hp _ 98 (by decide)).trans (hM.l14 h), fun h => (hp _ 105 (by decide)).trans (hM.l21 h), hM.hc, hM.bc, hM.bl, (fun h => ⟨rfl, (hM.c9 h).2⟩), hM.c15, hM.c16, hM.c22, hM.c23⟩
    · have hp : ∀ (v : Value) t, t ≠ 92 → (aa.put (some 92) v).eval (.tmp t) = aa.eval (.tmp t) := fun v t h => ev_put_ne (Ne.symm h)
      have gb := g1
      rw [hDq] at gb
      have BA : ∀ o, Below ww.heap.size ww (ww.alloc o) := fun o => (Below.refl _ _).alloc (Nat.le_refl _) _
      refine wp_step o8 fun o hg hd hop K' hK => ?_
      refine bs_a hd hop ((hM.ev (by decide)).trans e91) (hK _ _ ?_)
      refine ⟨by simp [Act.put, hM.sz], hM.df, fr_put hM.fr (by decide), ⟨β, setN γ 0 (some ww.heap.size), hD.setg (by simp) 0, (setN_ne _ _ (by decide)).trans h3, (setN_ne _ _ (by decide)).trans h4, (by rw [hp _ 90 (by decide), ev_put_same (by omega), hp _ 93 (by decide)]; exact gb.build), (by rw [hp _ 97 (by decide), hp _ 99 (by decide), hp _ 100 (by decide)]; exact g2.kept (World.grownBy_alloc ww _ none) (fun q e => by cases e) (fun q e => by cases e)), (by rw [hp _ 104 (by decide), hp _ 106 (by decide), hp _ 107 (by decide)]; exact g3.kept (World.grownBy_alloc ww _ none) (fun q e => by cases e) (fun q e => by cases e))⟩, fun h => (hp _ 98 (by decide)).trans (hM.l14 h), fun h => (hp _ 105 (by decide)).trans (hM.l21 h), fun j u h => cell_on (BA _) (hM.hc j u h), fun j u h => cell_on (BA _) (hM.bc j u h), hM.bl.alloc hbw _, (fun h => ⟨(hM.c9 h).1, rfl⟩), hM.c15, hM.c16, hM.c22, hM.c23⟩
    · have hp : ∀ (v : Value) t, t ≠ 93 → (aa.put (some 93) v).eval (.tmp t) = aa.eval (.tmp t) := fun v t h => ev_put_ne (Ne.symm h)
      have gb := g1
      rw [hDq, hdq 6 (by simp), hdq 8 (by simp)] at gb
      refine wp_step o9 fun o hg hd hop K' hK => ?_
      refine gb.app (.tmp 90) (.tmp 92) 104 hop (.int .u8 0) 1 Tryz.underlying104 (by kernel_rfl) rfl (by decide) rfl rfl rfl (by intro u hu; simp at hu; subst hu; rfl) (by omega) (by unfold maxLen; omega) hbw ?_ (hD.bg 0 0)
      intro za' w' β' hch hgr hat
      rw [hd]
      obtain ⟨A9, c9, hz9, own9, hβ9⟩ := hch.row1 rfl
      have hlt9 : ∀ q, β' = some q → q < w'.heap.size := fun q e => (own9.lt q (by rw [← hβ9]; exact e)).2
      have hge : ∀ q, β 0 = some q → base ≤ q := fun q e => ((gb.row0 rfl).1.lt q (by rw [← (gb.row0 rfl).2]; exact e)).1
      refine hK _ _ ⟨by simp [Act.put, hM.sz], hM.df, fr_put hM.fr (by decide), ⟨setN β 0 β', γ, hD.setb hgr.size hat hlt9, h3, h4, (by rw [hp _ 90 (by decide), hp _ 92 (by decide), ev_put_same (by omega)]; show Chn _ _ _ _ _ _ _ _ (D 6) (D 8) true _ _ _ _ _; rw [show D 6 = true from hdq _ (by simp), show D 8 = true from hdq _ (by simp)]; exact hch), (by rw [hp _ 97 (by decide), hp _ 99 (by decide), hp _ 100 (by decide)]; exact g2.kept hgr (fun q e => hD.bb 0 1 (by decide) q e) (fun q e => hD.bg 0 1 q e)), (by rw [hp _ 104 (by decide), hp _ 106 (by decide), hp _ 107 (by decide)]; exact g3.kept hgr (fun q e => hD.bb 0 2 (by decide) q e) (fun q e => hD.bg 0 2 q e))⟩, fun h => (hp _ 98 (by decide)).trans (hM.l14 h), fun h => (hp _ 105 (by decide)).trans (hM.l21 h), fun j u h => (hgr.cell_far ⟨hb, j, none⟩ (hD.g 3 hb h3) (fun e => hD.bg 0 3 hb e.symm h3)).trans (hM.hc j u h), fun j u h => (hgr.cell_far ⟨bb, j, none⟩ (hD.g 4 bb h4) (fun e => hD.bg 0 4 bb e.symm h4)).trans (hM.bc j u h), hM.bl.grown hgr hbw hge, (fun _ => ⟨hdq _ (by simp), hdq _ (by simp)⟩), hM.c15, (fun h => ⟨(hM.c16 h).1, (hM.c16 h).2.1, rfl⟩), hM.c22, hM.c23⟩
    · have hp : ∀ (v : Value) t, t ≠ 97 → (aa.put (some 97) v).eval (.tmp t) = aa.eval (.tmp t) := fun v t h => ev_put_ne (Ne.symm h)
      refine wp_step o13 fun o hg hd hop K' hK => ?_
      refine ld_b hd hop ((hM.ev (by decide)).trans e96) (hBox _ _ bx.x2) (hK _ _ ?_)
      refine ⟨by simp [Act.put, hM.sz], hM.df, fr_put hM.fr (by decide), ⟨β, γ, hD, h3, h4, (by rw [hp _ 90 (by decide), hp _ 92 (by decide), hp _ 93 (by decide)]; exact g1), (by rw [ev_put_same (by omega), hp _ 99 (by decide), hp _ 100 (by decide)]; exact g2.load), (by rw [hp _ 104 (by decide), hp _ 106 (by decide), hp _ 107 (by decide)]; exact g3)⟩, fun h => (hp _ 98 (by decide)).trans (hM.l14 h), fun h => (hp _ 105 (by decide)).trans (hM.l21 h), hM.hc, hM.bc, hM.bl, hM.c9, hM.c15, (fun h => ⟨rfl, (hM.c16 h).2.1, (hM.c16 h).2.2⟩), hM.c22, hM.c23⟩
    · refine wp_step o14 fun o hg hd hop K' hK => ?_
      have hp : ∀ (v : Value) t, t ≠ 98 → (aa.put (some 98) v).eval (.tmp t) = aa.eval (.tmp t) := fun v t h => ev_put_ne (Ne.symm h)
      refine ld_4a hd hop ((hM.ev (by decide)).trans e10) (hM.hc 0 _ rfl) (hM.hc 1 _ rfl) (hM.hc 2 _ rfl) (hM.hc 3 _ rfl) (hK _ _ ?_)
      refine ⟨by simp [Act.put, hM.sz], hM.df, fr_put hM.fr (by decide), ⟨β, γ, hD, h3, h4, (by rw [hp _ 90 (by decide), hp _ 92 (by decide), hp _ 93 (by decide)]; exact g1), (by rw [hp _ 97 (by decide), hp _ 99 (by decide), hp _ 100 (by decide)]; exact g2), (by rw [hp _ 104 (by decide), hp _ 106 (by decide), hp _ 107 (by decide)]; exact g3)⟩, fun _ => ev_put_same (by omega), fun h => (hp _ 105 (by decide)).trans (hM.l21 h), hM.hc, hM.bc, hM.bl, hM.c9, (fun _ => rfl), hM.c16, hM.c22, hM.c23⟩
    · have hp : ∀ (v : Value) t, t ≠ 99 → (aa.put (some 99) v).eval (.tmp t) = aa.eval (.tmp t) := fun v t h => ev_put_ne (Ne.symm h)
      have gb := g2
      rw [hDq] at gb
      have BA : ∀ o, Below ww.heap.size ww (ww.alloc o) := fun o => (Below.refl _ _).alloc (Nat.le_refl _) _
      refine wp_step o15 fun o hg hd hop K' hK => ?_
      refine bs_4a hd hop (hM.l14 (hdq _ (by simp))) (hK _ _ ?_)
      refine ⟨by simp [Act.put, hM.sz], hM.df, fr_put hM.fr (by decide), ⟨β, setN γ 1 (some ww.heap.size), hD.setg (by simp) 1, (setN_ne _ _ (by decide)).trans h3, (setN_ne _ _ (by decide)).trans h4, (by rw [hp _ 90 (by decide), hp _ 92 (by decide), hp _ 93 (by decide)]; exact g1.kept (World.grownBy_alloc ww _ none) (fun q e => by cases e) (fun q e => by cases e)), (by rw [hp _ 97 (by decide), ev_put_same (by omega), hp _ 100 (by decide)]; exact gb.build), (by rw [hp _ 104 (by decide), hp _ 106 (by decide), hp _ 107 (by decide)]; exact g3.kept (World.grownBy_alloc ww _ none) (fun q e => by cases e) (fun q e => by cases e))⟩, fun h => (hp _ 98 (by decide)).trans (hM.l14 h), fun h => (hp _ 105 (by decide)).trans (hM.l21 h), fun j u h => cell_on (BA _) (hM.hc j u h), fun j u h => cell_on (BA _) (hM.bc j u h), hM.bl.alloc hbw _, hM.c9, (fun _ => hdq _ (by simp)), (fun h => ⟨(hM.c16 h).1, rfl, (hM.c16 h).2.2⟩), hM.c22, hM.c23⟩
    · have hp : ∀ (v : Value) t, t ≠ 100 → (aa.put (some 100) v).eval (.tmp t) = aa.eval (.tmp t) := fun v t h => ev_put_ne (Ne.symm h)
      have gb := g2
      rw [hDq, hdq 13 (by simp), hdq 15 (by simp)] at gb
      refine wp_step o16 fun o hg hd hop K' hK => ?_
      refine gb.app (.tmp 97) (.tmp 99) 105 hop (.agg #[.int .u8 0, .int .u8 0, .int .u8 0, .int .u8 0]) 4 Tryz.underlying105 (by kernel_rfl) rfl (by decide) rfl rfl rfl (by intro u hu; simp at hu; rcases hu with rfl | rfl | rfl | rfl <;> rfl) (by omega) (by unfold maxLen; omega) hbw ?_ (hD.bg 1 1)
      intro za' w' β' hch hgr hat
      rw [hd]
      obtain ⟨A9, c9, hz9, own9, hβ9⟩ := hch.row1 rfl
      have hlt9 : ∀ q, β' = some q → q < w'.heap.size := fun q e => (own9.lt q (by rw [← hβ9]; exact e)).2
      have hge : ∀ q, β 1 = some q → base ≤ q := fun q e => ((gb.row0 rfl).1.lt q (by rw [← (gb.row0 rfl).2]; exact e)).1
      refine hK _ _ ⟨by simp [Act.put, hM.sz], hM.df, fr_put hM.fr (by decide), ⟨setN β 1 β', γ, hD.setb hgr.size hat hlt9, h3, h4, (by rw [hp _ 90 (by decide), hp _ 92 (by decide), hp _ 93 (by decide)]; exact g1.kept hgr (fun q e => hD.bb 1 0 (by decide) q e) (fun q e => hD.bg 1 0 q e)), (by rw [hp _ 97 (by decide), hp _ 99 (by decide), ev_put_same (by omega)]; show Chn _ _ _ _ _ _ _ _ (D 13) (D 15) true _ _ _ _ _; rw [show D 13 = true from hdq _ (by simp), show D 15 = true from hdq _ (by simp)]; exact hch), (by rw [hp _ 104 (by decide), hp _ 106 (by decide), hp _ 107 (by decide)]; exact g3.kept hgr (fun q e => hD.bb 1 2 (by decide) q e) (fun q e => hD.bg 1 2 q e))⟩, fun h => (hp _ 98 (by decide)).trans (hM.l14 h), fun h => (hp _ 105 (by decide)).trans (hM.l21 h), fun j u h => (hgr.cell_far ⟨hb, j, none⟩ (hD.g 3 hb h3) (fun e => hD.bg 1 3 hb e.symm h3)).trans (hM.hc j u h), fun j u h => (hgr.cell_far ⟨bb, j, none⟩ (hD.g 4 bb h4) (fun e => hD.bg 1 4 bb e.symm h4)).trans (hM.bc j u h), hM.bl.grown hgr hbw hge, hM.c9, hM.c15, (fun _ => ⟨hdq _ (by simp), hdq _ (by simp), hdq _ (by simp)⟩), hM.c22, (fun h => ⟨(hM.c23 h).1, (hM.c23 h).2.1, rfl⟩)⟩
    · have hp : ∀ (v : Value) t, t ≠ 104 → (aa.put (some 104) v).eval (.tmp t) = aa.eval (.tmp t) := fun v t h => ev_put_ne (Ne.symm h)
      refine wp_step o20 fun o hg hd hop K' hK => ?_
      refine ld_c hd hop ((hM.ev (by decide)).trans e103) (hBox _ _ bx.x3) (hK _ _ ?_)
      refine ⟨by simp [Act.put, hM.sz], hM.df, fr_put hM.fr (by decide), ⟨β, γ, hD, h3, h4, (by rw [hp _ 90 (by decide), hp _ 92 (by decide), hp _ 93 (by decide)]; exact g1), (by rw [hp _ 97 (by decide), hp _ 99 (by decide), hp _ 100 (by decide)]; exact g2), (by rw [ev_put_same (by omega), hp _ 106 (by decide), hp _ 107 (by decide)]; exact g3.load)⟩, fun h => (hp _ 98 (by decide)).trans (hM.l14 h), fun h => (hp _ 105 (by decide)).trans (hM.l21 h), hM.hc, hM.bc, hM.bl, hM.c9, hM.c15, hM.c16, hM.c22, (fun h => ⟨rfl, (hM.c23 h).2.1, (hM.c23 h).2.2⟩)⟩
    · refine wp_step o21 fun o hg hd hop K' hK => ?_
      have hp : ∀ (v : Value) t, t ≠ 105 → (aa.put (some 105) v).eval (.tmp t) = aa.eval (.tmp t) := fun v t h => ev_put_ne (Ne.symm h)
      refine ld_4b hd hop ((hM.ev (by decide)).trans e11) (hM.bc 0 _ rfl) (hM.bc 1 _ rfl) (hM.bc 2 _ rfl) (hM.bc 3 _ rfl) (hK _ _ ?_)
      refine ⟨by simp [Act.put, hM.sz], hM.df, fr_put hM.fr (by decide), ⟨β, γ, hD, h3, h4, (by rw [hp _ 90 (by decide), hp _ 92 (by decide), hp _ 93 (by decide)]; exact g1), (by rw [hp _ 97 (by decide), hp _ 99 (by decide), hp _ 100 (by decide)]; exact g2), (by rw [hp _ 104 (by decide), hp _ 106 (by decide), hp _ 107 (by decide)]; exact g3)⟩, fun h => (hp _ 98 (by decide)).trans (hM.l14 h), fun _ => ev_put_same (by omega), hM.hc, hM.bc, hM.bl, hM.c9, hM.c15, hM.c16, (fun _ => rfl), hM.c23⟩
    · have hp : ∀ (v : Value) t, t ≠ 106 → (aa.put (some 106) v).eval (.tmp t) = aa.eval (.tmp t) := fun v t h => ev_put_ne (Ne.symm h)
      have gb := g3
      rw [hDq] at gb
      have BA : ∀ o, Below ww.heap.size ww (ww.alloc o) := fun o => (Below.refl _ _).alloc (Nat.le_refl _) _
      refine wp_step o22 fun o hg hd hop K' hK => ?_
      refine bs_4b hd hop (hM.l21 (hdq _ (by simp))) (hK _ _ ?_)
      refine ⟨by simp [Act.put, hM.sz], hM.df, fr_put hM.fr (by decide), ⟨β, setN γ 2 (some ww.heap.size), hD.setg (by simp) 2, (setN_ne _ _ (by decide)).trans h3, (setN_ne _ _ (by decide)).trans h4, (by rw [hp _ 90 (by decide), hp _ 92 (by decide), hp _ 93 (by decide)]; exact g1.kept (World.grownBy_alloc ww _ none) (fun q e => by cases e) (fun q e => by cases e)), (by rw [hp _ 97 (by decide), hp _ 99 (by decide), hp _ 100 (by decide)]; exact g2.kept (World.grownBy_alloc ww _ none) (fun q e => by cases e) (fun q e => by cases e)), (by rw [hp _ 104 (by decide), ev_put_same (by omega), hp _ 107 (by decide)]; exact gb.build)⟩, fun h => (hp _ 98 (by decide)).trans (hM.l14 h), fun h => (hp _ 105 (by decide)).trans (hM.l21 h), fun j u h => cell_on (BA _) (hM.hc j u h), fun j u h => cell_on (BA _) (hM.bc j u h), hM.bl.alloc hbw _, hM.c9, hM.c15, hM.c16, (fun _ => hdq _ (by simp)), (fun h => ⟨(hM.c23 h).1, rfl, (hM.c23 h).2.2⟩)⟩
    · have hp : ∀ (v : Value) t, t ≠ 107 → (aa.put (some 107) v).eval (.tmp t) = aa.eval (.tmp t) := fun v t h => ev_put_ne (Ne.symm h)
      have gb := g3
      rw [hDq, hdq 20 (by simp), hdq 22 (by simp)] at gb
      refine wp_step o23 fun o hg hd hop K' hK => ?_
      refine gb.app (.tmp 104) (.tmp 106) 106 hop (.agg #[.int .i64 0, .int .i64 0, .int .i64 0, .int .i64 0]) 32 Tryz.underlying106 (by kernel_rfl) rfl (by decide) rfl rfl rfl (by intro u hu; simp at hu; rcases hu with rfl | rfl | rfl | rfl <;> rfl) (by omega) (by unfold maxLen; omega) hbw ?_ (hD.bg 2 2)
      intro za' w' β' hch hgr hat
      rw [hd]
      obtain ⟨A9, c9, hz9, own9, hβ9⟩ := hch.row1 rfl
      have hlt9 : ∀ q, β' = some q → q < w'.heap.size := fun q e => (own9.lt q (by rw [← hβ9]; exact e)).2
      have hge : ∀ q, β 2 = some q → base ≤ q := fun q e => ((gb.row0 rfl).1.lt q (by rw [← (gb.row0 rfl).2]; exact e)).1
      refine hK _ _ ⟨by simp [Act.put, hM.sz], hM.df, fr_put hM.fr (by decide), ⟨setN β 2 β', γ, hD.setb hgr.size hat hlt9, h3, h4, (by rw [hp _ 90 (by decide), hp _ 92 (by decide), hp _ 93 (by decide)]; exact g1.kept hgr (fun q e => hD.bb 2 0 (by decide) q e) (fun q e => hD.bg 2 0 q e)), (by rw [hp _ 97 (by decide), hp _ 99 (by decide), hp _ 100 (by decide)]; exact g2.kept hgr (fun q e => hD.bb 2 1 (by decide) q e) (fun q e => hD.bg 2 1 q e)), (by rw [hp _ 104 (by decide), hp _ 106 (by decide), ev_put_same (by omega)]; show Chn _ _ _ _ _ _ _ _ (D 20) (D 22) true _ _ _ _ _; rw [show D 20 = true from hdq _ (by simp), show D 22 = true from hdq _ (by simp)]; exact hch)⟩, fun h => (hp _ 98 (by decide)).trans (hM.l14 h), fun h => (hp _ 105 (by decide)).trans (hM.l21 h), fun j u h => (hgr.cell_far ⟨hb, j, none⟩ (hD.g 3 hb h3) (fun e => hD.bg 2 3 hb e.symm h3)).trans (hM.hc j u h), fun j u h => (hgr.cell_far ⟨bb, j, none⟩ (hD.g 4 bb h4) (fun e => hD.bg 2 4 bb e.symm h4)).trans (hM.bc j u h), hM.bl.grown hgr hbw hge, hM.c9, hM.c15, hM.c16, hM.c22, (fun _ => ⟨hdq _ (by simp), hdq _ (by simp), hdq _ (by simp)⟩)⟩
  · refine ⟨rfl, rfl, fun _ _ => rfl, ⟨fun i => if i = 0 then V1.ownBlock else if i = 1 then V2.ownBlock else if i = 2 then V3.ownBlock else none, fun i => if i = 3 then some hb else if i = 4 then some bb else none, ?_, rfl, rfl, Chn.start (r1.drew) _ _ _, Chn.start (r2.drew) _ _ _, Chn.start (r3.drew) _ _ _⟩, fun h => (by cases h), fun h => (by cases h), fun j u h => cell_on hBd (hc j u h), fun j u h => cell_on hBd (bc j u h), (Below.refl _ _).drew, fun h => (by cases h), fun h => (by cases h), fun h => (by cases h), fun h => (by cases h), fun h => (by cases h)⟩
    have hb1 : ∀ q, V1.ownBlock = some q → q < W.heap.size := fun q e => (r1.lt q e).2
    have hb2 : ∀ q, V2.ownBlock = some q → q < W.heap.size := fun q e => (r2.lt q e).2
    have hb3 : ∀ q, V3.ownBlock = some q → q < W.heap.size := fun q e => (r3.lt q e).2
    have h1 : hb < W.heap.size := World.block_lt_of_cell? W ⟨hb, 0, none⟩ (hc 0 _ rfl)
    have h2 : bb < W.heap.size := World.block_lt_of_cell? W ⟨bb, 0, none⟩ (bc 0 _ rfl)
    refine ⟨fun i j hij q e => ?_, fun i j q e => ?_, fun i q e => ?_, fun i q e => ?_⟩
    · split at e
      · rename_i hi; subst hi
        split
        · rename_i hj; exact absurd hj.symm hij
        · split
          · exact d12 q e
          · split
            · exact d13 q e
            · simp
      · split at e
        · split
          · exact fun e2 => d12 q e2 e
          · split
            · rename_i hi _ hj; exact absurd (hi.trans hj.symm) hij
            · split
              · exact d23 q e
              · simp
        · split at e
          · split
            · exact fun e2 => d13 q e2 e
            · split
              · exact fun e2 => d23 q e2 e
              · split
                · rename_i hi _ _ hj; exact absurd (hi.trans hj.symm) hij
                · simp
          · cases e
    · have hq : q < hb ∧ q < bb := by
        split at e
        · exact hlo q (.inl e)
        · split at e
          · exact hlo q (.inr (.inl e))
          · split at e
            · exact hlo q (.inr (.inr e))
            · cases e
      split
      · intro e2; cases e2; omega
      · split
        · intro e2; cases e2; omega
        · simp
    · simp only [World.size_drew]
      split at e
      · exact hb1 q e
      · split at e
        · exact hb2 q e
        · split at e
          · exact hb3 q e
          · cases e
    · simp only [World.size_drew]
      split at e
      · cases e; exact h1
      · split at e
        · cases e; exact h2
        · cases e
end Go.Proofs.YthhfndifcdiomaaGreat
