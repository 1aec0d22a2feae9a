/-
  The reference's clock: the neighbour of a piece; what l06Begin lays.
  Conditions: the pieces, pushes and spans are right.
-/
import Derived.Test.YtnabedhhflfepaaWin
import Derived.Test.YtnabedhhflfepaaCells
import Derived.Deep.CutRange
import Derived.Deep.RegionLaw
namespace Go.Proofs.Ytnabedhhflfepaa
open Go.RowKit
set_option linter.unusedSimpArgs false
set_option linter.unusedVariables false

set_option maxRecDepth 100000 in
theorem near_S (b : Nat) (wi hi : Int) (a : Option Addr) (c : Nat) (xs : List Pc) (i s : Nat) (w : World) (hb : BdA w b wi hi a xs.length c) (h : SlA Pc.enc 5 w a xs) (hn : xs.length ≤ 60) (hx : i < xs.length) (hs : s < 4) (ok : ∀ p ∈ xs, (0 ≤ p.x ∧ p.x ≤ 23) ∧ (0 ≤ p.y ∧ p.y ≤ 23)) :
    Calls Try.prog 56 #[.pointer (some ⟨b, 0, none⟩), .int .i64 i, .int .i64 s] w fun e w' => e = .returned (.int .i64 (nearI xs i s)) ∧ Below w.heap.size w w' := by
  obtain ⟨b1, o1, ha, hb1, hc1⟩ := h.cells (by omega)
  have e1 : xs[i]? = some xs[i] := List.getElem?_eq_getElem hx
  have okp := ok _ (List.getElem_mem hx)
  have HV := hid (show nearI xs i s = idxOf (atC (nx xs[i].x s) (ny xs[i].y s)) xs by unfold nearI; rw [e1])
  have f0 : w.cell? ⟨b1, o1 + i * 5, none⟩ = some (.int .i8 xs[i].x) := hc1 i _ e1 0 _ rfl
  have f1 : w.cell? ⟨b1, o1 + i * 5 + 1, none⟩ = some (.int .i8 xs[i].y) := hc1 i _ e1 1 _ rfl
  generalize xs[i] = q at *
  have hi1 : (i : Int) < (xs.length : Int) := by omega
  have Hb := hid hb
  have Hh := hid h
  obtain ⟨g9, g0, g1, g2⟩ := hb
  have HN := hid (fun W => next_S q.x q.y s W (by omega) (by omega))
  rw [ha] at g2
  clear e1 hc1 h ok
  go_enter Try.func56, Try.ntmps56
  go_wp2_with fail
  refine (HN.out _).mono ?_
  rintro e w1 ⟨rfl, hb1'⟩
  go_wp2_with fail
  refine (find_S b wi hi a c xs (nx q.x s) (ny q.y s) w1 (Hb.out.below hb1' Hb.out.lt) (Hh.out.below hb1')).mono ?_
  rintro e w2 ⟨rfl, hb2⟩
  go_wp2_with fail
  go_ret
  exact ⟨ret_int HV.out.symm, below_then hb1' hb2⟩
/-- What region 2 lays: the box, two rows without hits, one row without sides. -/
structure Beg (w wx : World) (b : Nat) (al : Option Addr) (pl cl : Nat) (sa : Option Addr) (sl sc n cb eg lg sg ec lc gc : Nat) : Prop where
  below : Below w.heap.size w wx
  lt : cb < wx.heap.size
  c0 : wx.cell? ⟨cb, 0, none⟩ = some (.pointer (some ⟨b, 0, none⟩))
  c1 : wx.cell? ⟨cb, 1, none⟩ = some (.slice al pl cl)
  c2 : wx.cell? ⟨cb, 2, none⟩ = some (.slice sa sl sc)
  c3 : wx.cell? ⟨cb, 3, none⟩ = some (.slice none 0 0)
  c4 : wx.cell? ⟨cb, 4, none⟩ = some (.slice (some ⟨eg, 0, none⟩) n ec)
  c5 : wx.cell? ⟨cb, 5, none⟩ = some (.slice (some ⟨lg, 0, none⟩) n lc)
  c6 : wx.cell? ⟨cb, 6, none⟩ = some (.slice (some ⟨sg, 0, none⟩) n gc)
  e : TkA wx eg n (fun _ => big)
  l : TkA wx lg n (fun _ => big)
  s : SdA wx sg n (fun _ _ => false)
  fc : Fz wx cb
  fs : Fz wx sg
  n1 : eg ≠ cb
  n2 : eg ≠ sg
  n3 : lg ≠ cb
  n4 : lg ≠ sg
  n5 : sg ≠ cb
  b0 : w.heap.size ≤ cb
  b1 : w.heap.size ≤ sg
theorem made_false (m j : Nat) (h : j < m) : (madeCells #[.bool false, .bool false, .bool false, .bool false] m)[j]? = some (.bool false) := by
  unfold madeCells
  have hz : ∀ k, (#[.bool false, .bool false, .bool false, .bool false] : Array Value)[k % 4]! = .bool false := by
    intro k
    have : k % 4 = 0 ∨ k % 4 = 1 ∨ k % 4 = 2 ∨ k % 4 = 3 := by omega
    rcases this with h | h | h | h <;> rw [h] <;> rfl
  rw [Array.getElem?_map, Array.getElem?_eq_getElem (by simpa using h)]
  simp only [Array.getElem_range, Option.map_some]
  exact congrArg some (hz j)
theorem sd_made (W : World) (n : Nat) : SdA (W.alloc (.cells (madeCells #[.bool false, .bool false, .bool false, .bool false] (n * 4)) 114)) W.heap.size n (fun _ _ => false) := by
  refine ⟨by simp, fun i s hi hs => ?_⟩
  have h := made_false (n * 4) (i * 4 + s) (by omega)
  have e : (⟨W.heap.size, i * 4 + s, none⟩ : Addr).spot = none := rfl
  rw [World.cell?_alloc_new]
  exact h
theorem fz_made (W : World) (o : Array Value) (t : TypeId) : Fz (W.alloc (.cells o t)) W.heap.size := fun j => by simp [go_sem]
theorem beg_of {w X : World} {b : Nat} {al : Option Addr} {pl cl : Nat} {sa : Option Addr} {sl sc n eg lg sg ec lc gc : Nat} (hB : Below w.heap.size w X) (he : TkA X eg n (fun _ => big)) (hl : TkA X lg n (fun _ => big)) (hs : SdA X sg n (fun _ _ => false)) (fs : Fz X sg) (n2 : eg ≠ sg) (n4 : lg ≠ sg) (b1 : w.heap.size ≤ sg) {q : Nat} (hq : q = X.heap.size) :
    Beg w (X.alloc (Obj.cells #[.pointer (some ⟨b, 0, none⟩), .slice al pl cl, .slice sa sl sc, .slice none 0 0, .slice (some ⟨eg, 0, none⟩) n ec, .slice (some ⟨lg, 0, none⟩) n lc, .slice (some ⟨sg, 0, none⟩) n gc] 89)) b al pl cl sa sl sc n q eg lg sg ec lc gc := by
  subst hq
  have HB : ∀ o, Below X.heap.size X (X.alloc o) := fun o => (Below.refl _ _).alloc (Nat.le_refl _) _
  exact ⟨below_of hB hB.size (HB _), by simp, by simp [go_sem], by simp [go_sem], by simp [go_sem], by simp [go_sem], by simp [go_sem], by simp [go_sem], by simp [go_sem], he.below (HB _) he.lt, hl.below (HB _) hl.lt, ⟨by have := hs.lt; simp; omega, fun i s hi hj => (cell_on (HB _) (hs.c i s hi hj))⟩, fz_made _ _ _, fs.below (HB _) hs.lt,
    by have := he.lt; omega, n2, by have := hl.lt; omega, n4, by have := hs.lt; omega, hB.size, b1⟩
/-- The box, but for its cell 3. -/
def Bx (w : World) (cb b : Nat) (al : Option Addr) (pl cl : Nat) (sa : Option Addr) (sl sc n eg lg sg ec lc gc : Nat) : Prop :=
  w.cell? ⟨cb, 0, none⟩ = some (.pointer (some ⟨b, 0, none⟩)) ∧ w.cell? ⟨cb, 1, none⟩ = some (.slice al pl cl) ∧ w.cell? ⟨cb, 2, none⟩ = some (.slice sa sl sc) ∧
  w.cell? ⟨cb, 4, none⟩ = some (.slice (some ⟨eg, 0, none⟩) n ec) ∧ w.cell? ⟨cb, 5, none⟩ = some (.slice (some ⟨lg, 0, none⟩) n lc) ∧ w.cell? ⟨cb, 6, none⟩ = some (.slice (some ⟨sg, 0, none⟩) n gc)
section
variable {w w1 : World} {cb b : Nat} {al : Option Addr} {pl cl : Nat} {sa : Option Addr} {sl sc n eg lg sg ec lc gc : Nat}
theorem Bx.kept (h : Bx w cb b al pl cl sa sl sc n eg lg sg ec lc gc) {g : Nat} (hg : w.grownBy w1 (some g)) (hne : cb ≠ g) : Bx w1 cb b al pl cl sa sl sc n eg lg sg ec lc gc := by
  have K : ∀ o v, w.cell? ⟨cb, o, none⟩ = some v → w1.cell? ⟨cb, o, none⟩ = some v := fun o v e => (hg.cell_far ⟨cb, o, none⟩ (World.block_lt_of_cell? w ⟨cb, o, none⟩ e) (by simpa using hne)).trans e
  obtain ⟨h0, h1, h2, h4, h5, h6⟩ := h
  exact ⟨K _ _ h0, K _ _ h1, K _ _ h2, K _ _ h4, K _ _ h5, K _ _ h6⟩
theorem Bx.kept0 (h : Bx w cb b al pl cl sa sl sc n eg lg sg ec lc gc) {r : Option Nat} (hg : w.grownBy w1 r) (hne : some cb ≠ r) : Bx w1 cb b al pl cl sa sl sc n eg lg sg ec lc gc := by
  have K : ∀ o v, w.cell? ⟨cb, o, none⟩ = some v → w1.cell? ⟨cb, o, none⟩ = some v := fun o v e => (hg.cell_far ⟨cb, o, none⟩ (World.block_lt_of_cell? w ⟨cb, o, none⟩ e) hne).trans e
  obtain ⟨h0, h1, h2, h4, h5, h6⟩ := h
  exact ⟨K _ _ h0, K _ _ h1, K _ _ h2, K _ _ h4, K _ _ h5, K _ _ h6⟩
theorem Bx.below (h : Bx w cb b al pl cl sa sl sc n eg lg sg ec lc gc) (hb : Below w.heap.size w w1) : Bx w1 cb b al pl cl sa sl sc n eg lg sg ec lc gc := by
  obtain ⟨h0, h1, h2, h4, h5, h6⟩ := h
  exact ⟨cell_on hb h0, cell_on hb h1, cell_on hb h2, cell_on hb h4, cell_on hb h5, cell_on hb h6⟩
theorem Bx.set (h : Bx w cb b al pl cl sa sl sc n eg lg sg ec lc gc) (v : Value) : Bx (w.setCell ⟨cb, 3, none⟩ v) cb b al pl cl sa sl sc n eg lg sg ec lc gc := by
  have K : ∀ o u, o ≠ 3 → w.cell? ⟨cb, o, none⟩ = some u → (w.setCell ⟨cb, 3, none⟩ v).cell? ⟨cb, o, none⟩ = some u := fun o u ho e => (World.cell?_setCell_other _ _ _ _ (by intro x; simp only [Addr.mk.injEq] at x; omega)).trans e
  obtain ⟨h0, h1, h2, h4, h5, h6⟩ := h
  exact ⟨K _ _ (by omega) h0, K _ _ (by omega) h1, K _ _ (by omega) h2, K _ _ (by omega) h4, K _ _ (by omega) h5, K _ _ (by omega) h6⟩
end
def nrR (xs : List Pc) (i : Nat) : List Value := [.int .i64 (nearI xs i 0), .int .i64 (nearI xs i 1), .int .i64 (nearI xs i 2), .int .i64 (nearI xs i 3)]
def nrL (xs : List Pc) : Nat → List Value
  | 0 => []
  | k + 1 => nrL xs k ++ nrR xs k
theorem nrL_length (xs : List Pc) : ∀ k, (nrL xs k).length = k * 4
  | 0 => rfl
  | k + 1 => by
    have := nrL_length xs k
    simp only [nrL, nrR, List.length_append, this, List.length_cons, List.length_nil]
    omega
theorem nrL_at (xs : List Pc) : ∀ k i s, i < k → s < 4 → (nrL xs k)[i * 4 + s]? = some (.int .i64 (nearI xs i s))
  | 0, i, s, h, _ => by omega
  | k + 1, i, s, h, hs => by
    have hl := nrL_length xs k
    rcases Nat.lt_or_ge i k with h1 | h1
    · rw [nrL, List.getElem?_append_left (by omega)]
      exact nrL_at xs k i s h1 hs
    · obtain rfl : i = k := by omega
      rw [nrL, List.getElem?_append_right (by omega), hl, show i * 4 + s - i * 4 = s by omega]
      have : s = 0 ∨ s = 1 ∨ s = 2 ∨ s = 3 := by omega
      rcases this with rfl | rfl | rfl | rfl <;> rfl
def nrS (xs : List Pc) (i s j : Nat) : Int := if j < s then nearI xs i j else 0
set_option maxRecDepth 100000 in
set_option maxHeartbeats 4000000 in
theorem begin_S (b : Nat) (wi hi : Int) (a : Option Addr) (c : Nat) (xs : List Pc) (al : Option Addr) (cl : Nat) (ps : List Pu) (sa : Option Addr) (sc : Nat) (ss : List Sp) (w : World)
    (hb : BdA w b wi hi a xs.length c) (hx : SlA Pc.enc 5 w a xs) (hp : SlA Pu.enc 4 w al ps) (hs : SlA Sp.enc 2 w sa ss) (hD : ∀ na nc, (ClkD.mk b wi hi a c xs al cl ps sa sc ss na nc).Ok) :
    Calls Try.prog 36 #[.pointer (some ⟨b, 0, none⟩), .slice al ps.length cl, .slice sa ss.length sc] w fun e w' => ∃ cb na nc, e = .returned (.pointer (some ⟨cb, 0, none⟩)) ∧ Below w.heap.size w w' ∧ CkS w' w.heap.size cb (ClkD.mk b wi hi a c xs al cl ps sa sc ss na nc) (rd (ClkD.mk b wi hi a c xs al cl ps sa sc ss na nc).net 0) := by
  have hn : xs.length ≤ 60 := (hD none 0).n
  have Hb := hid hb
  have HX := hid hx
  have HP := hid hp
  have HS := hid hs
  have HD := hid hD
  obtain ⟨g9, g0, g1, g2⟩ := hb
  have Hn := hid (fun W => none_S xs.length W hn)
  have hmk := make_any (P := Try.prog) 87 114 (.agg #[.bool false, .bool false, .bool false, .bool false]) 4 4 Try.underlying87 (by kernel_rfl) xs.length (by omega) (by omega)
  clear hx hp hs hD
  go_enter Try.func36, Try.ntmps36
  go_upto_region 2 with fail
  go_cut [8] from 17 to 27 (fun s8 wx => ∃ cb eg lg sg ec lc gc, s8 = .pointer (some ⟨cb, 0, none⟩) ∧ Beg w wx b al ps.length cl sa ss.length sc xs.length cb eg lg sg ec lc gc)
  case first =>
    go_region_held3 (fun _ => True)
      (first | trivial)
      (first
        | (go_at_call 55; have mark := T1; refine (Hn.out _).mono ?_; rintro e v2 ⟨lg, lc, rfl, hb2, hl2, T2, F2⟩; have hh := trivial)
        | (go_at_call 55; refine (Hn.out _).mono ?_; rintro e v1 ⟨eg, ec, rfl, hb1, hl1, T1, F1⟩; have hh := trivial))
    all_goals (go_wp2_with fail; go_meet)
    · have B1 : Below w.heap.size w v1 := ((Below.refl _ _).drew).trans (hb1.mono (by simp))
      have B2 := below_of B1 B1.size hb2
      have hA := (Below.refl v2.heap.size v2).alloc (Nat.le_refl _) (.cells (madeCells #[.bool false, .bool false, .bool false, .bool false] (xs.length * 4)) 114)
      have t1 := T1.below hb2 T1.lt
      exact ⟨_, eg, lg, _, ec, lc, _, rfl, beg_of (below_of B2 B2.size hA) (t1.below hA t1.lt) (T2.below hA T2.lt) (sd_made _ _) (fz_made _ _ _) (by have := t1.lt; omega) (by have := T2.lt; omega) B2.size (by simp)⟩
    · have B1 : Below w.heap.size w v1 := ((Below.refl _ _).drew).trans (hb1.mono (by simp))
      have hA := (Below.refl v1.heap.size v1).alloc (Nat.le_refl _) (.cells (madeCells #[.bool false, .bool false, .bool false, .bool false] (xs.length * 4)) 114)
      have BA := below_of B1 B1.size hA
      have B2 := below_of BA BA.size hb2
      have t1 := T1.below hA T1.lt
      have s1 := sd_made v1 xs.length
      exact ⟨_, eg, lg, _, ec, lc, _, rfl, beg_of B2 (t1.below hb2 t1.lt) T2 ⟨Nat.lt_of_lt_of_le s1.lt hb2.size, fun i s hi hj => cell_on hb2 (s1.c i s hi hj)⟩ ((fz_made _ _ _).below hb2 s1.lt) (by have := T1.lt; omega) (by simp at hl2; omega) B1.size (by simp)⟩
    · have hA := ((Below.refl w.heap.size w).alloc (Nat.le_refl _) (.cells (madeCells #[.bool false, .bool false, .bool false, .bool false] (xs.length * 4)) 114)).drew
      have B1 := below_of hA hA.size hb1
      have B2 := below_of B1 B1.size hb2
      have t1 := T1.below hb2 T1.lt
      have s0 := sd_made w xs.length
      have s1 := s0.below ((Below.refl _ _).drew) s0.lt
      have z1 := hb1.size
      have hb3 := below_then hb1 hb2
      exact ⟨_, eg, lg, _, ec, lc, _, rfl, beg_of B2 t1 T2 ⟨Nat.lt_of_lt_of_le s1.lt hb3.size, fun i s hi hj => cell_on hb3 (s1.c i s hi hj)⟩ (((fz_made _ _ _).below ((Below.refl _ _).drew) s0.lt).below hb3 s1.lt) (by simp at hl1; omega) (by simp at hl2 z1; omega) (Nat.le_refl _) (by simp)⟩
  case rest =>
    obtain ⟨cb, eg, lg, sg, ec, lc, gc, rfl, hB⟩ := hcut
    have HB := hid hB
    clear hB
    go_wp2_with fail
    go_loopw [9] (fun iv wr => ∃ (k : Nat) (A : Option Addr) (c1 : Nat), k ≤ xs.length ∧ iv = .int .i64 k ∧ wc.grownBy wr (some cb) ∧ Bx wr cb b al ps.length cl sa ss.length sc xs.length eg lg sg ec lc gc ∧ wr.cell? ⟨cb, 3, none⟩ = some (.slice A k c1) ∧ wr.ownsRow wc.heap.size 93 4 (.slice A k c1) k (nrL xs k) ∧ Fz wr cb) (fun iv _ => xs.length - (intOf iv).toNat)
    case atStart => exact ⟨0, none, 0, Nat.zero_le _, rfl, World.grownBy.refl _ _, ⟨HB.out.c0, HB.out.c1, HB.out.c2, HB.out.c4, HB.out.c5, HB.out.c6⟩, HB.out.c3, World.ownsRow_nil _ _ _ _, HB.out.fc⟩
    case round =>
      obtain ⟨k, A, c1, hk, rfl, hg, hbx, h3, own, hfz⟩ := hrel
      obtain ⟨V, hV⟩ : ∃ V, V = wr := ⟨_, rfl⟩
      subst hV
      have BW : Below w.heap.size w V := HB.out.below.grown hg HB.out.below.size (fun k hk => by cases hk; exact HB.out.b0)
      have HBW := hid BW
      have zw := BW.size
      have zc := hg.size
      have zb := HB.out.below.size
      have zcl := HB.out.lt
      have hcb := HB.out.b0
      have HBX := hid hbx
      have HO := hid own
      have HF := hid hfz
      have HG := hid hg
      have H3 := hid h3
      by_cases hlt : k < xs.length
      · have hd : decide ((k : Int) < (xs.length : Int)) = true := by rw [decide_eq_true_iff]; omega
        obtain ⟨W1, hW1⟩ : ∃ W, W = V.alloc (Obj.cells #[.int .i64 0, .int .i64 0, .int .i64 0, .int .i64 0] 93) := ⟨_, rfl⟩
        have B1 : Below V.heap.size V W1 := by rw [hW1]; exact (Below.refl _ _).alloc (Nat.le_refl _) _
        have hz1 : W1.heap.size = V.heap.size + 1 := by rw [hW1]; simp
        have fz1 : Fz W1 V.heap.size := by rw [hW1]; exact fz_made _ _ _
        have ce1 : ∀ j, j < 4 → W1.cell? ⟨V.heap.size, j, none⟩ = some (.int .i64 (nrS xs k 0 j)) := by
          intro j hj
          have : j = 0 ∨ j = 1 ∨ j = 2 ∨ j = 3 := by omega
          rw [hW1]
          rcases this with rfl | rfl | rfl | rfl <;> simp [go_sem, nrS]
        have HC1 := hid ce1
        have HB1 := hid B1
        clear hbx own hfz hg ce1 h3 B1 BW
        go_wp2_with fail
        rw [← hW1]
        clear hW1
        go_loopw [11] (fun sv wx => ∃ s : Nat, s ≤ 4 ∧ sv = .int .i64 s ∧ W1.grownBy wx (some V.heap.size) ∧ (∀ j, j < 4 → wx.cell? ⟨V.heap.size, j, none⟩ = some (.int .i64 (nrS xs k s j))) ∧ Fz wx V.heap.size) (fun sv _ => 4 - (intOf sv).toNat)
        case atStart => exact ⟨0, Nat.zero_le _, rfl, World.grownBy.refl _ _, HC1.out, fz1⟩
        case round =>
          obtain ⟨s, hs, rfl, hg2, hce, hfz⟩ := hrel
          have hz2 := hg2.size
          have B2 : Below V.heap.size V wr := HB1.out.grown hg2 (by omega) (fun k hk => by cases hk; exact Nat.le_refl _)
          have B3 : Below w.heap.size w wr := below_of HBW.out (by omega) B2
          by_cases hs4 : s < 4
          · have hds : decide ((s : Int) < 4) = true := by rw [decide_eq_true_iff]; omega
            have hsi : (s : Int) < 4 := by omega
            have okD := HD.out none 0
            have HN := hid (near_S b wi hi a c xs k s wr (Hb.out.below B3 Hb.out.lt) (HX.out.below B3) hn hlt hs4 (fun p hp => ⟨(okD.pc p hp).1, (okD.pc p hp).2.1⟩))
            have ec := hce s hs4
            have ef := hfz s
            have HCE := hid hce
            have HFZ := hid hfz
            have HG2 := hid hg2
            clear hce hfz hg2
            go_wp2_with fail
            refine HN.out.mono ?_
            rintro e w3 ⟨rfl, hb3⟩
            have ec3 := cell_on hb3 ec
            have ef3 : w3.frozen? ⟨V.heap.size, s, none⟩ = false := (hb3.frozen (p := ⟨V.heap.size, s, none⟩) (by simp; omega)).trans ef
            go_wp2_with fail
            refine ⟨⟨s + 1, by omega, by go_num, HG2.out.trans ((grown_of _ hb3).trans (store_grown _ _ _ _)), fun j hj => ?_, (HFZ.out.below hb3 (by omega)).set _ _⟩, by simp [intOf]; omega⟩
            by_cases hj1 : j = s
            · subst hj1
              rw [World.cell?_setCell_same _ _ _ ec3]
              unfold nrS
              rw [if_pos (by omega)]
            · rw [World.cell?_setCell_other _ _ _ _ (by intro x; simp only [Addr.mk.injEq] at x; omega), cell_on hb3 (HCE.out j hj)]
              unfold nrS
              by_cases h1 : j < s
              · rw [if_pos h1, if_pos (by omega)]
              · rw [if_neg h1, if_neg (by omega)]
          · obtain rfl : s = 4 := by omega
            have hds : decide (((4 : Nat) : Int) < 4) = false := by decide
            have e0 : wr.cell? ⟨V.heap.size, 0, none⟩ = some (.int .i64 (nearI xs k 0)) := hce 0 (by omega)
            have e1 : wr.cell? ⟨V.heap.size, 1, none⟩ = some (.int .i64 (nearI xs k 1)) := hce 1 (by omega)
            have e2 : wr.cell? ⟨V.heap.size, 2, none⟩ = some (.int .i64 (nearI xs k 2)) := hce 2 (by omega)
            have e3 : wr.cell? ⟨V.heap.size, 3, none⟩ = some (.int .i64 (nearI xs k 3)) := hce 3 (by omega)
            have q3 : wr.cell? ⟨cb, 3, none⟩ = some (.slice A k c1) := cell_on B2 H3.out
            have q3a : ∀ o, (wr.alloc o).cell? ⟨cb, 3, none⟩ = some (.slice A k c1) := fun o => cell_on ((Below.refl _ _).alloc (Nat.le_refl _) o) q3
            have Ho1 := hid (own_step HO.out B2)
            have HX1 := hid (HBX.out.below B2)
            have HF1 := hid (HF.out.below B2 (by omega))
            have HG1 := hid (HG.out.trans (grown_of (some cb) B2))
            have HB3 := hid B3
            have agq : (Value.slice A k c1).ownBlock ≠ some cb := fun e => by have := (Ho1.out.lt _ e).1; omega
            have agp : (Value.slice A k c1).ownBlock ≠ some V.heap.size := fun e => by have := (HO.out.lt _ e).2; omega
            have hN6 : k + 1 ≤ maxLen := by unfold maxLen; omega
            have hN7 : (k + 1) * 32 ≤ 140737488355328 := by omega
            have hqw : cb ≠ wr.heap.size := by omega
            have hqb : cb ≠ V.heap.size := by omega
            have hVw : V.heap.size ≠ wr.heap.size := by omega
            obtain ⟨i0, hi0, hz0, hz1', hz2'⟩ := info_parts (show (Try.prog.info? 93).map (fun i => (i.zero, i.size, i.bytes)) = some (some (.agg #[.int .i64 0, .int .i64 0, .int .i64 0, .int .i64 0]), 4, 32) by kernel_rfl)
            have HNR := hid (show nrL xs (k + 1) = nrL xs k ++ [.int .i64 (nearI xs k 0), .int .i64 (nearI xs k 1), .int .i64 (nearI xs k 2), .int .i64 (nearI xs k 3)] from rfl)
            generalize nearI xs k 0 = v0 at *
            generalize nearI xs k 1 = v1 at *
            generalize nearI xs k 2 = v2 at *
            generalize nearI xs k 3 = v3 at *
            clear hce hfz hg2 B2 B3
            go_wp2_with fail
            go_region_law
              ((refine step_append_lies _ (by rfl) _ _ _ (by rfl) wc.heap.size 93 i0 _ 4 32 Try.underlying86 hi0 hz0 hz1' hz2' rfl (by omega) (.slice A k c1) k (nrL xs k) (by rfl) ((Ho1.out.alloc _).drew)
                  ⟨wr.heap.size, 0, none⟩ 1 1 [.int .i64 v0, .int .i64 v1, .int .i64 v2, .int .i64 v3] (by rfl) (by rfl) (World.news_of_block (cs := #[.int .i64 v0, .int .i64 v1, .int .i64 v2, .int .i64 v3]) (t := 93) (fr := (0, 0)) (heap_alloc_new wr _)) (by simp [Value.oneCell'])
                  (by omega) hN6 hN7 (by simp; omega) (wr.heap.size + 1) (by simp) ?_; intro gg cap w2 hown2 hgrow hat hlt2
                have y2 := (hgrow.cell_far ⟨cb, 3, none⟩ (by simp; omega) (Ne.symm agq)).trans (cell_on ((((Below.refl wr.heap.size wr).alloc (Nat.le_refl _) _).drew)) q3)
                have y3 := (hgrow.frozen_far ⟨cb, 3, none⟩ (by simp; omega) (Ne.symm agq)).trans ((HF1.out.below ((((Below.refl wr.heap.size wr).alloc (Nat.le_refl _) _).drew)) (by omega)) 3)))
            all_goals (
              have hs2 := hgrow.size
              simp only [World.size_alloc, World.size_drew] at hs2
              have BA := hid (((Below.refl wr.heap.size wr).alloc (Nat.le_refl _) (Obj.cells #[.int .i64 v0, .int .i64 v1, .int .i64 v2, .int .i64 v3] 93)).drew)
              have GF := hid (((HG1.out.trans (grown_of (some cb) BA.out)).andThen hgrow (fun j hj => .inl (Ho1.out.lt j hj).1)).trans (store_grown w2 cb 3 (.slice (some ⟨gg, 0, none⟩) (k + 1) cap)))
              have XF := hid (((HX1.out.below BA.out).kept0 hgrow (Ne.symm agq)).set (.slice (some ⟨gg, 0, none⟩) (k + 1) cap))
              have OF := hid (World.ownsRow.kept (row := some cb) hown2 (store_grown w2 cb 3 (.slice (some ⟨gg, 0, none⟩) (k + 1) cap)) (.inr (fun e => by have := (hown2.lt _ e).1; omega)))
              have FF := hid (show Fz w2 cb from fun j => (hgrow.frozen_far ⟨cb, j, none⟩ (by simp; omega) (Ne.symm agq)).trans ((HF1.out.below BA.out (by omega)) j))
              clear hown2 hgrow hat
              go_wp2_with fail
              refine ⟨⟨k + 1, some ⟨gg, 0, none⟩, cap, by omega, by go_num, GF.out, XF.out, World.cell?_setCell_same _ _ _ y2, (by rw [HNR.out]; exact OF.out), FF.out.set _ _⟩, by simp [intOf]; omega⟩)
      · obtain rfl : k = xs.length := by omega
        have hd : decide ((xs.length : Int) < (xs.length : Int)) = false := by rw [decide_eq_false_iff_not]; omega
        clear hbx own hfz hg h3
        go_wp2_with fail
        go_ret
        have G := HG.out
        have hB := HB.out
        have hA : 0 < xs.length → ∃ g, A = some ⟨g, 0, none⟩ ∧ wc.heap.size ≤ g ∧ g < V.heap.size := fun hp => by
          obtain ⟨g, cap', hv, hg, hlt2⟩ := HO.out.form hp
          injection hv with hv1
          exact ⟨g, hv1, hg, hlt2⟩
        obtain ⟨x0, x1, x2, x4, x5, x6⟩ := HBX.out
        have far : ∀ g, g < w.heap.size → g ≠ cb ∧ g ≠ sg := fun g h => by have := hB.b0; have := hB.b1; omega
        have ltA : 0 < xs.length → ∀ q, a = some q → q.block < w.heap.size := fun hp q e => by obtain ⟨b1, o1, e2, hl, _⟩ := HX.out.cells hp; rw [e] at e2; cases e2; exact hl
        have ltP : 0 < ps.length → ∀ q, al = some q → q.block < w.heap.size := fun hp q e => by obtain ⟨b1, o1, e2, hl, _⟩ := HP.out.cells hp; rw [e] at e2; cases e2; exact hl
        have ltS : 0 < ss.length → ∀ q, sa = some q → q.block < w.heap.size := fun hp q e => by obtain ⟨b1, o1, e2, hl, _⟩ := HS.out.cells hp; rw [e] at e2; cases e2; exact hl
        have ltN : 0 < xs.length → ∀ q, A = some q → q.block ≠ cb ∧ q.block ≠ sg := fun hp q e => by
          obtain ⟨g, e2, h1, _⟩ := hA hp
          rw [e] at e2; cases e2
          have := hB.s.lt
          have := hB.lt
          dsimp only; omega
        refine ⟨cb, A, c1, rfl, HBW.out, eg, lg, sg, ec, lc, gc, ⟨?_, x0, x1, x2, H3.out, Hb.out.below HBW.out Hb.out.lt, HX.out.below HBW.out, HP.out.below HBW.out, HS.out.below HBW.out, fun hp => ?_⟩, ⟨by omega, (far _ g9).1, fun hp q e => (far _ (ltA hp q e)).1, fun hp q e => (far _ (ltP hp q e)).1, fun hp q e => (far _ (ltS hp q e)).1, fun hp q e => (ltN hp q e).1⟩, ⟨Ne.symm hB.n5, (far _ g9).2, fun hp q e => (far _ (ltA hp q e)).2, fun hp q e => (far _ (ltP hp q e)).2, fun hp q e => (far _ (ltS hp q e)).2, fun hp q e => (ltN hp q e).2⟩,
          x4, x5, x6, hB.e.kept G hB.n1, hB.l.kept G hB.n3, hB.s.kept G hB.n5, HF.out, ?_, hB.n1, hB.n2, hB.n3, hB.n4, hB.n5, hB.b0, hB.b1⟩
        · have := hB.lt; omega
        · obtain ⟨g, e, h1, h2⟩ := hA hp
          subst e
          exact ⟨g, rfl, h2, fun i s hi hs => by
            have := HO.out.cells (g := g) rfl (i * 4 + s) _ (nrL_at xs _ i s hi hs)
            have e : ((⟨g, 0, none⟩ : Addr).add (i * 4 + s)) = ⟨g, i * 4 + s, none⟩ := by unfold Addr.add; split <;> simp_all
            rw [e] at this
            exact this⟩
        · exact fun j => (G.frozen_far ⟨sg, j, none⟩ hB.s.lt (by simpa using hB.n5)).trans (hB.fs j)
end Go.Proofs.Ytnabedhhflfepaa
