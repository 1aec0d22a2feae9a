/-
  The program's leads: what an earliest and a latest hit lead to; the earliest hits; whether a piece always hits; the latest hits.
  Conditions: the board, its pushes and spans are right.
-/
import Derived.Test.YtnabedhhflfepaaSeekI
import Derived.Test.YtnabedhhflfepaaWin
namespace Go.Proofs.Ytnabedhhflfepaa
open Go.RowKit
set_option linter.unusedSimpArgs false
set_option linter.unusedVariables false

theorem cell_on' {w0 w : World} (h : Below w0.heap.size w0 w) {a : Addr} {v : Value} (hc : w0.cell? a = some v) : w.cell? a = some v := (h.cell (World.block_lt_of_cell? w0 a hc)).trans hc
/-- A row of bytes. -/
structure U8A (w : World) (g n : Nat) (f : Nat → Int) : Prop where
  lt : g < w.heap.size
  c : ∀ i, i < n → w.cell? ⟨g, i, none⟩ = some (.int .u8 (f i))
theorem U8A.only {w w1 : World} {l : List Nat} {g n : Nat} {f : Nat → Int} (h : U8A w g n f) (ho : Only w w1 l) (hn : g ∉ l) : U8A w1 g n f :=
  ⟨Nat.lt_of_lt_of_le h.lt ho.size, fun i hi => ho.cell (h.c i hi) hn⟩
/-- A row of flags. -/
structure BoA (w : World) (g n : Nat) (f : Nat → Bool) : Prop where
  lt : g < w.heap.size
  c : ∀ i, i < n → w.cell? ⟨g, i, none⟩ = some (.bool (f i))
theorem BoA.only {w w1 : World} {l : List Nat} {g n : Nat} {f : Nat → Bool} (h : BoA w g n f) (ho : Only w w1 l) (hn : g ∉ l) : BoA w1 g n f :=
  ⟨Nat.lt_of_lt_of_le h.lt ho.size, fun i hi => ho.cell (h.c i hi) hn⟩
theorem tmg_nums {D : TmgD} (hD : D.clk.Ok) {i : Nat} (hi : i < D.T.xs.length) : ∃ x, D.ss[i]? = some x ∧ 1 ≤ x.lo ∧ x.lo ≤ x.hi ∧ x.hi ≤ 9 ∧ (D.net.low i : Int) = x.lo ∧ (D.net.high i : Int) = x.hi := by
  have hl : D.ss.length = D.T.xs.length := hD.len
  have e : D.ss[i]? = some D.ss[i] := List.getElem?_eq_getElem (by omega)
  have := hD.sp _ (List.getElem_mem (show i < D.ss.length by omega))
  refine ⟨_, e, this.1, this.2.1, this.2.2, ?_, ?_⟩
  · simp only [TmgD.net, netOf, e]
    exact Int.toNat_of_nonneg (by omega)
  · simp only [TmgD.net, netOf, e]
    exact Int.toNat_of_nonneg (by omega)
theorem hit_at {D : TmgD} {i : Nat} (hi : i < D.T.xs.length) (f t : Nat) : D.net.hit i f t = bitI (mx (hitsG D.T.xs[i].k D.T.xs[i].t f)) t := by
  simp only [TmgD.net, netOf, List.getElem?_eq_getElem hi]
  unfold mx
  by_cases h : 0 ≤ hitsG D.T.xs[i].k D.T.xs[i].t f
  · rw [decide_eq_true h, if_pos h, Bool.true_and]
  · rw [decide_eq_false h, if_neg h, Bool.false_and]
    unfold bitI
    simp
theorem mx_in (k t s : Int) : 0 ≤ mx (hitsG k t s) ∧ mx (hitsG k t s) ≤ 32 := by
  unfold mx hitsG
  have h1 := rotTo_in (tab k ((s + 4 - t) % 4)) t 4
  repeat' split
  all_goals omega
theorem near_at {D : TmgD} {i s : Nat} : D.net.near i s = if nearI D.T.xs i s < 0 then none else some (nearI D.T.xs i s).toNat := rfl
theorem has_W (v : Int) (s : Nat) (w : World) (hv : 0 ≤ v ∧ v ≤ 255) (hs : s < 4) :
    Calls Try.prog 71 #[.int .u8 v, .int .i64 s] w fun e w' => e = .returned (.bool (bitI v s)) ∧ w = w' := by
  refine (has_I v s w (by omega) (by omega) (by omega) (by omega)).mono ?_
  rintro e w' ⟨rfl, rfl⟩
  exact ⟨ret_bool (by unfold bitI; rw [Int.toNat_natCast]), rfl⟩
/-- What the leads read of the clock, at piece i and side s. -/
structure Rdy (w : World) (D : TmgD) (i side bb bo hb ho pb po : Nat) (mv lo hi : Int) : Prop where
  t0 : w.cell? ⟨D.tb, 0, none⟩ = some (.pointer (some ⟨D.T.sb, 0, none⟩))
  t1 : w.cell? ⟨D.tb, 1, none⟩ = some (.slice (some ⟨pb, po, none⟩) D.ss.length D.sc)
  s2 : w.cell? ⟨D.T.sb, 2, none⟩ = some (.slice (some ⟨hb, ho, none⟩) D.T.xs.length D.T.hc)
  s3 : w.cell? ⟨D.T.sb, 3, none⟩ = some (.slice (some ⟨bb, bo, none⟩) D.T.xs.length D.T.bc)
  be : ∀ s, s < 4 → w.cell? ⟨bb, bo + i * 4 + s, none⟩ = some (.int .i64 (nearI D.T.xs i s))
  hc : w.cell? ⟨hb, ho + i * 4 + side, none⟩ = some (.int .u8 mv)
  p0 : w.cell? ⟨pb, po + i * 2, none⟩ = some (.int .i8 lo)
  p1 : w.cell? ⟨pb, po + i * 2 + 1, none⟩ = some (.int .i8 hi)
theorem Rdy.below {w w1 : World} {D : TmgD} {i side bb bo hb ho pb po : Nat} {mv lo hi : Int} (h : Rdy w D i side bb bo hb ho pb po mv lo hi) (hB : Below w.heap.size w w1) : Rdy w1 D i side bb bo hb ho pb po mv lo hi :=
  ⟨cell_on hB h.t0, cell_on hB h.t1, cell_on hB h.s2, cell_on hB h.s3, fun s hs => cell_on hB (h.be s hs), cell_on hB h.hc, cell_on hB h.p0, cell_on hB h.p1⟩
theorem rdy_of {w : World} {D : TmgD} (hT : Tmg w D) (hD : D.clk.Ok) {i side : Nat} (hi : i < D.T.xs.length) (hs : side < 4) :
    ∃ bb bo hb ho pb po mv lo hi, Rdy w D i side bb bo hb ho pb po mv lo hi ∧ (∀ t, D.net.hit i side t = bitI mv t) ∧ (0 ≤ mv ∧ mv ≤ 255) ∧ (1 ≤ lo ∧ lo ≤ 9) ∧ (1 ≤ hi ∧ hi ≤ 9) ∧ (D.net.low i : Int) = lo ∧ (D.net.high i : Int) = hi := by
  obtain ⟨x, ex, x0, x1, x2, nl, nh⟩ := tmg_nums hD hi
  have hl : D.ss.length = D.T.xs.length := hD.len
  obtain ⟨pb, po, e1, _, cp⟩ := hT.sp.cells (by omega)
  obtain ⟨hb, ho, e2, _, ch⟩ := hT.st.ht.cells (by simp [hitL]; omega)
  obtain ⟨bb, bo, e3, _, cb⟩ := hT.st.bs.cells (by rw [besL_length]; omega)
  have t1 := hT.c1
  have s2 := hT.st.c2
  have s3 := hT.st.c3
  rw [e1] at t1
  rw [e2] at s2
  rw [e3] at s3
  have eh : (hitL D.T.xs)[i]? = some (hitQ D.T.xs[i]) := by simp [hitL, List.getElem?_map, List.getElem?_eq_getElem hi]
  have hh : (hitQ D.T.xs[i]).e8[side]? = some (.int .u8 (mx (hitsG D.T.xs[i].k D.T.xs[i].t side))) := by rcases four_of hs with rfl | rfl | rfl | rfl <;> rfl
  have hbe : ∀ s, s < 4 → (besQ D.T.xs i).e64[s]? = some (.int .i64 (nearI D.T.xs i s)) := fun s h => by rcases four_of h with rfl | rfl | rfl | rfl <;> rfl
  have hm := mx_in D.T.xs[i].k D.T.xs[i].t side
  refine ⟨bb, bo, hb, ho, pb, po, mx (hitsG D.T.xs[i].k D.T.xs[i].t side), x.lo, x.hi, ⟨hT.c0, t1, s2, s3, fun s h => ?_, ?_, ?_, ?_⟩, fun t => hit_at hi side t, by omega, by omega, by omega, nl, nh⟩
  · have := cb i _ (besL_get _ _ i hi) s _ (hbe s h)
    rwa [← Nat.add_assoc] at this
  · have := ch i _ eh side _ hh
    rwa [← Nat.add_assoc] at this
  · exact cp i _ ex 0 _ rfl
  · exact cp i _ ex 1 _ rfl
theorem bef_four (L : Nat → Nat) (i t side : Nat) : bef4 (fun k => L (4 * i + k)) t side = bef L i t side := rfl
def AuxE (D : TmgD) (L : Nat → Nat) (m mb xb : Nat) (w : World) (Dn : Nat → Bool) (E : Nat → Nat) : Prop :=
  w.cell? ⟨xb, 0, none⟩ = some (.pointer (some ⟨D.tb, 0, none⟩)) ∧ w.cell? ⟨mb, 0, none⟩ = some (.slice (some ⟨m, 0, none⟩) D.T.xs.length D.T.xs.length) ∧
  U8A w m D.T.xs.length (fun i => sBits (fun s => Dn (4 * i + s) && !bef L i (E (4 * i + s)) s)) ∧ Fz w m
theorem ms_bits {Dn : Nat → Bool} {E E' : Nat → Nat} {L : Nat → Nat} {i side j : Nat} (hs : side < 4) (he : ∀ y, Dn y = true → E' y = E y) (hx : E' (4 * i + side) = E (4 * i + side)) :
    sBits (fun s => plus Dn (4 * i + side) (4 * j + s) && !bef L j (E' (4 * j + s)) s) =
      sBits (fun s => (decide (j = i ∧ s = side) && !bef L i (E (4 * i + side)) side) || (Dn (4 * j + s) && !bef L j (E (4 * j + s)) s)) := by
  refine sBits_congr fun k hk => ?_
  unfold plus
  by_cases e : j = i ∧ k = side
  · obtain ⟨rfl, rfl⟩ := e
    rw [hx]
    simp
  · have : ¬ 4 * j + k = 4 * i + side := by omega
    rw [decide_eq_false this, decide_eq_false e]
    simp only [Bool.false_or, Bool.false_and]
    cases hd : Dn (4 * j + k) with
    | false => rfl
    | true => rw [he _ hd]
/-- What is done stays as it is. -/
theorem found_keep {F : (Nat → Nat) → Nat → Nat} {Dn : Nat → Bool} {E C : Nat → Nat} {n x : Nat} (h : Found F Dn E) (hx : Pick Dn E n x) (hC : ∀ y, E x < C y) : (∀ y, Dn y = true → min (E y) (C y) = E y) ∧ min (E x) (C x) = E x := by
  refine ⟨fun y hy => ?_, ?_⟩
  · have := h.ord y x hy hx.fresh
    have := hC y
    omega
  · have := hC x
    omega
theorem leadE_gt {N : Net} (hN : N.Ok) (L : Nat → Nat) {i side t : Nat} (ht : t < big) (y : Nat) : t < leadE N L i side t y := by
  unfold leadE
  split
  · have := (gE_lead hN L i side (opp (y % 4))).later t
    omega
  · exact ht
theorem leadL_gt {N : Net} (hN : N.Ok) (S : Nat → Nat → Bool) {i t : Nat} {b : Bool} (ht : t < big) (y : Nat) : t < leadL N S b i t y := by
  unfold leadL
  split
  · have := (gL_lead hN S i (opp (y % 4))).later t
    omega
  · exact ht
end Go.Proofs.Ytnabedhhflfepaa
