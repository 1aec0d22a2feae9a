/-
  The reference's clock: what it holds; the least push of a piece; whether a piece hits its neighbour.
  Conditions: the pieces, pushes and spans are right.
-/
import Derived.Test.YtnabedhhflfepaaClock
import Derived.Test.YtnabedhhflfepaaHits
import Derived.Test.YtnabedhhflfepaaCells
import Derived.Test.YtnabedhhflfepaaOb
namespace Go.Proofs.Ytnabedhhflfepaa
open Go.RowKit
set_option linter.unusedSimpArgs false
set_option linter.unusedVariables false

def puVal (x y s : Int) (p : Pu) : Nat := if p.x = x ∧ p.y = y ∧ p.s = s then p.t.toNat else big
def pushV (x y s : Int) : List Pu → Nat
  | [] => big
  | p :: ps => min (puVal x y s p) (pushV x y s ps)
theorem pushV_le (x y s : Int) : ∀ ps, pushV x y s ps ≤ big
  | [] => Nat.le_refl _
  | p :: ps => by have := pushV_le x y s ps; unfold pushV; omega
theorem pushV_append (x y s : Int) : ∀ a b, pushV x y s (a ++ b) = min (pushV x y s a) (pushV x y s b)
  | [], b => by have := pushV_le x y s b; simp only [List.nil_append, pushV]; omega
  | p :: a, b => by
    have := pushV_append x y s a b
    simp only [List.cons_append, pushV, this]
    omega
theorem pushV_take {x y s : Int} {ps : List Pu} {k : Nat} {p : Pu} (h : ps[k]? = some p) : pushV x y s (ps.take (k + 1)) = min (pushV x y s (ps.take k)) (puVal x y s p) := by
  rw [List.take_add_one, h, pushV_append]
  have : puVal x y s p ≤ big ∨ big < puVal x y s p := by omega
  have h2 := pushV_le x y s (ps.take k)
  simp only [Option.toList, pushV]
  omega
def nearI (xs : List Pc) (i s : Nat) : Int := match xs[i]? with
  | some p => idxOf (atC (nx p.x s) (ny p.y s)) xs
  | none => -1
def netOf (xs : List Pc) (ps : List Pu) (ss : List Sp) : Net where
  n := xs.length
  can i s := match xs[i]? with | some p => decide (0 ≤ hitsG p.k p.t s) | none => false
  hit i f t := match xs[i]? with | some p => decide (0 ≤ hitsG p.k p.t f) && bitI (hitsG p.k p.t f) t | none => false
  near i s := if nearI xs i s < 0 then none else some (nearI xs i s).toNat
  low i := match ss[i]? with | some x => x.lo.toNat | none => 1
  high i := match ss[i]? with | some x => x.hi.toNat | none => 1
  push i s := match xs[i]? with | some p => pushV p.x p.y s ps | none => big
structure ClkD where
  bb : Nat
  wi : Int
  hi : Int
  ap : Option Addr
  cp : Nat
  xs : List Pc
  al : Option Addr
  cl : Nat
  ps : List Pu
  sa : Option Addr
  sc : Nat
  ss : List Sp
  na : Option Addr
  nc : Nat
def ClkD.net (D : ClkD) : Net := netOf D.xs D.ps D.ss
/-- What the clock's box holds, but for the rows that turn. -/
structure Clk (w : World) (cb : Nat) (D : ClkD) : Prop where
  lt : cb < w.heap.size
  c0 : w.cell? ⟨cb, 0, none⟩ = some (.pointer (some ⟨D.bb, 0, none⟩))
  c1 : w.cell? ⟨cb, 1, none⟩ = some (.slice D.al D.ps.length D.cl)
  c2 : w.cell? ⟨cb, 2, none⟩ = some (.slice D.sa D.ss.length D.sc)
  c3 : w.cell? ⟨cb, 3, none⟩ = some (.slice D.na D.xs.length D.nc)
  bd : BdA w D.bb D.wi D.hi D.ap D.xs.length D.cp
  px : SlA Pc.enc 5 w D.ap D.xs
  pu : SlA Pu.enc 4 w D.al D.ps
  sp : SlA Sp.enc 2 w D.sa D.ss
  nr : 0 < D.xs.length → ∃ g, D.na = some ⟨g, 0, none⟩ ∧ g < w.heap.size ∧ ∀ i s, i < D.xs.length → s < 4 → w.cell? ⟨g, i * 4 + s, none⟩ = some (.int .i64 (nearI D.xs i s))
theorem Clk.below {w w1 : World} {cb : Nat} {D : ClkD} (h : Clk w cb D) (hb : Below w.heap.size w w1) : Clk w1 cb D :=
  ⟨Nat.lt_of_lt_of_le h.lt hb.size, cell_on hb h.c0, cell_on hb h.c1, cell_on hb h.c2, cell_on hb h.c3, h.bd.below hb h.bd.lt, h.px.below hb, h.pu.below hb, h.sp.below hb,
    fun hp => by
      obtain ⟨g, e, hl, hc⟩ := h.nr hp
      exact ⟨g, e, Nat.lt_of_lt_of_le hl hb.size, fun i s hi hs => cell_on hb (hc i s hi hs)⟩⟩
/-- What is right about it. -/
structure ClkD.Ok (D : ClkD) : Prop where
  n : D.xs.length ≤ 60
  m : D.ps.length ≤ 20
  len : D.ss.length = D.xs.length
  pc : ∀ p ∈ D.xs, (0 ≤ p.x ∧ p.x ≤ 23) ∧ (0 ≤ p.y ∧ p.y ≤ 23) ∧ (0 ≤ p.k ∧ p.k ≤ 5) ∧ (0 ≤ p.t ∧ p.t ≤ 3) ∧ (1 ≤ p.d ∧ p.d ≤ 9)
  pu : ∀ p ∈ D.ps, (0 ≤ p.x ∧ p.x ≤ 23) ∧ (0 ≤ p.y ∧ p.y ≤ 23) ∧ (0 ≤ p.s ∧ p.s ≤ 3) ∧ (0 ≤ p.t ∧ p.t ≤ 1000)
  sp : ∀ p ∈ D.ss, 1 ≤ p.lo ∧ p.lo ≤ p.hi ∧ p.hi ≤ 9
  one : ∀ (i j : Nat) p q, D.xs[i]? = some p → D.xs[j]? = some q → p.x = q.x → p.y = q.y → i = j
set_option maxRecDepth 100000 in
set_option maxHeartbeats 1000000 in
theorem pushed_S (cb : Nat) (D : ClkD) (i s : Nat) (w : World) (hD : D.Ok) (hc : Clk w cb D) (hi : i < D.xs.length) (hs : s < 4) :
    Calls Try.prog 92 #[.pointer (some ⟨cb, 0, none⟩), .int .i64 i, .int .i64 s] w fun e w' => e = .returned (.int .i64 (dn (D.net.push i s))) ∧ Below w.heap.size w w' := by
  obtain ⟨b1, o1, ha, hb1, hc1⟩ := hc.px.cells (by omega)
  have e1 : D.xs[i]? = some D.xs[i] := List.getElem?_eq_getElem hi
  have HV := hid (show D.net.push i s = pushV D.xs[i].x D.xs[i].y s D.ps by simp only [ClkD.net, netOf]; rw [e1])
  have f0 : w.cell? ⟨b1, o1 + i * 5, none⟩ = some (.int .i8 D.xs[i].x) := hc1 i _ e1 0 _ rfl
  have f1 : w.cell? ⟨b1, o1 + i * 5 + 1, none⟩ = some (.int .i8 D.xs[i].y) := hc1 i _ e1 1 _ rfl
  generalize D.xs[i] = q at *
  have hbig := hid (show big = 1099511627776 from rfl)
  have hm := hD.m
  have hn := hD.n
  have hi1 : (i : Int) < (D.xs.length : Int) := by omega
  obtain ⟨g9, g0, g1, g2⟩ := hc.bd
  have okp := hD.pu
  have g2' := g2
  rw [ha] at g2
  clear e1 hc1
  go_enter Try.func92, Try.ntmps92
  go_wp2_with fail
  go_loopw [7, 8] (fun bv kv wr => ∃ k : Nat, k ≤ D.ps.length ∧ kv = .int .i64 k ∧ bv = .int .i64 (dn (pushV q.x q.y s (D.ps.take k))) ∧ Below w.heap.size w wr) (fun _ kv _ => D.ps.length - (intOf kv).toNat)
  case atStart => exact ⟨0, Nat.zero_le _, rfl, rfl, Below.refl _ _⟩
  case round =>
    obtain ⟨k, hk, rfl, rfl, hbl⟩ := hrel
    have z0 := cell_on hbl hc.c0
    have z1 := cell_on hbl hc.c1
    by_cases hlt : k < D.ps.length
    · have y2 := cell_on hbl g2
      have y0 := cell_on hbl f0
      have y1 := cell_on hbl f1
      obtain ⟨b2, o2, ha2, hb2, hc2⟩ := (hc.pu.below hbl).cells (by omega)
      have e2 : D.ps[k]? = some D.ps[k] := List.getElem?_eq_getElem hlt
      have okq := okp _ (List.getElem_mem hlt)
      have HT := hid (pushV_take (x := q.x) (y := q.y) (s := s) e2)
      have x0 : wr.cell? ⟨b2, o2 + k * 4, none⟩ = some (.int .i8 D.ps[k].x) := hc2 k _ e2 0 _ rfl
      have x1 : wr.cell? ⟨b2, o2 + k * 4 + 1, none⟩ = some (.int .i8 D.ps[k].y) := hc2 k _ e2 1 _ rfl
      have x2 : wr.cell? ⟨b2, o2 + k * 4 + 2, none⟩ = some (.int .i8 D.ps[k].s) := hc2 k _ e2 2 _ rfl
      have x3 : wr.cell? ⟨b2, o2 + k * 4 + 3, none⟩ = some (.int .i16 D.ps[k].t) := hc2 k _ e2 3 _ rfl
      rw [ha2] at z1
      have hle := pushV_le q.x q.y s (D.ps.take k)
      generalize D.ps[k] = p at *
      obtain ⟨m, hm2⟩ : ∃ m, pushV q.x q.y s (D.ps.take k) = m := ⟨_, rfl⟩
      rw [hm2] at HT hle
      rw [hm2]
      clear hm2 hc2 e2 ha2 ha
      have hz := hbl.size
      have hg : Try.prog.eqGuardType Try.prog.depth 57 = false := by kernel_rfl
      have heq := fun W => eql_Ce p.x p.y q.x q.y W
      obtain ⟨⟨_, _⟩, ⟨_, _⟩, ⟨_, _⟩, ⟨t0, t1⟩⟩ := okq
      by_cases h1 : p.x = q.x ∧ p.y = q.y
      · simp only [show decide (p.x = q.x ∧ p.y = q.y) = true from decide_eq_true h1] at heq
        have H1 := hid h1
        clear h1
        by_cases h2 : p.s = (s : Int)
        · have hv : puVal q.x q.y s p = p.t.toNat := by unfold puVal; rw [if_pos ⟨H1.out.1, H1.out.2, h2⟩]
          have e3 : (p.s == (s : Int)) = true := by simp [h2]
          have H2 := hid h2
          clear h2
          obtain ⟨t, ht⟩ : ∃ t : Nat, p.t = t := ⟨p.t.toNat, by omega⟩
          rw [hv, ht, Int.toNat_natCast] at HT
          rw [ht] at x3
          have tb : t < big := by have := hbig.out; omega
          have hwt : IntKind.i64.wrap (t : Int) = t := IntWalk.i64_in _ (by omega)
          clear hv t0 t1 ht
          by_cases h3 : m < big
          · rw [dn_lt h3]
            have e4 : decide ((m : Int) < 0) = false := by rw [decide_eq_false_iff_not]; omega
            by_cases h4 : t < m
            · have e5 : decide ((t : Int) < (m : Int)) = true := by rw [decide_eq_true_iff]; omega
              go_wp2_with fail
              go_quiet (fail)
              clear heq hg
              go_wp2_with fail
              exact ⟨⟨k + 1, by omega, by go_num, by rw [HT.out, Nat.min_eq_right (by omega), dn_lt tb], below_drewN hbl _⟩, by simp [intOf]; omega⟩
            · have e5 : decide ((t : Int) < (m : Int)) = false := by rw [decide_eq_false_iff_not]; omega
              go_wp2_with fail
              go_quiet (fail)
              clear heq hg
              go_wp2_with fail
              exact ⟨⟨k + 1, by omega, by go_num, by rw [HT.out, Nat.min_eq_left (by omega), dn_lt h3], below_drewN hbl _⟩, by simp [intOf]; omega⟩
          · rw [dn_ge h3]
            go_wp2_with fail
            go_quiet (fail)
            clear heq hg
            go_wp2_with fail
            exact ⟨⟨k + 1, by omega, by go_num, by rw [HT.out, Nat.min_eq_right (by omega), dn_lt tb], below_drewN hbl _⟩, by simp [intOf]; omega⟩
        · have hv : puVal q.x q.y s p = big := by unfold puVal; rw [if_neg (fun h => h2 h.2.2)]
          have e3 : (p.s == (s : Int)) = false := by simpa using h2
          rw [hv] at HT
          clear hv h2
          go_wp2_with fail
          go_quiet (fail)
          clear heq hg
          go_wp2_with fail
          exact ⟨⟨k + 1, by omega, by go_num, by rw [HT.out, Nat.min_eq_left (by omega)], below_drewN hbl _⟩, by simp [intOf]; omega⟩
      · simp only [show decide (p.x = q.x ∧ p.y = q.y) = false from decide_eq_false h1] at heq
        have hv : puVal q.x q.y s p = big := by unfold puVal; rw [if_neg (fun h => h1 ⟨h.1, h.2.1⟩)]
        rw [hv] at HT
        clear hv h1
        go_wp2_with fail
        go_quiet (fail)
        clear heq hg
        go_wp2_with fail
        exact ⟨⟨k + 1, by omega, by go_num, by rw [HT.out, Nat.min_eq_left (by omega)], below_drewN hbl _⟩, by simp [intOf]; omega⟩
    · obtain rfl : k = D.ps.length := by omega
      go_wp2_with fail
      go_ret
      exact ⟨ret_int (by rw [HV.out, List.take_length]), hbl⟩
end Go.Proofs.Ytnabedhhflfepaa
