/-
  What is drawn from bytes: numbers, pieces, small boards.
  What is drawn from bytes: pieces, small boards, orders.
  A piece that is drawn.
  Conditions: not too many bytes.
-/
import Derived.Test.YthhfndifcdiomaaGreatFewS
import Derived.Deep.RegionHeld3
import Derived.Lib.EndianBits
namespace Go.Proofs.YthhfndifcdiomaaGreat
open Go.RowKit
set_option linter.unusedSimpArgs false
set_option linter.unusedVariables false

/-- A source of numbers in a box, its bytes in an older block. -/
structure SrcA (w : World) (sb : Nat) (a : Option Addr) (bs : List Int) (c t : Nat) : Prop where
  lt : sb < w.heap.size
  code : ∀ i x, bs[i]? = some x → ∃ cb co, a = some ⟨cb, co, none⟩ ∧ cb < sb ∧ w.cell? ⟨cb, co + i, none⟩ = some (.int .u8 x)
  rng : ∀ x ∈ bs, 0 ≤ x ∧ x ≤ 255
  c0 : w.cell? ⟨sb, 0, none⟩ = some (.slice a bs.length c)
  c1 : w.cell? ⟨sb, 1, none⟩ = some (.int .i64 (t : Nat))
  c2 : ∃ v : Int, w.cell? ⟨sb, 2, none⟩ = some (.int .u64 v) ∧ 0 ≤ v ∧ v < 2 ^ 64
  fz : ∀ j, w.frozen? ⟨sb, j, none⟩ = false
theorem SrcA.keep {w w' : World} {sb : Nat} {a : Option Addr} {bs : List Int} {c t : Nat} (h : SrcA w sb a bs c t) (hb : Below (sb + 1) w w') : SrcA w' sb a bs c t := by
  obtain ⟨v, h1, h2⟩ := h.c2
  refine ⟨Nat.lt_of_lt_of_le h.lt hb.size, fun i x hx => ?_, h.rng, ?_, ?_, ⟨v, ?_, h2⟩, fun j => ?_⟩
  · obtain ⟨cb, co, e, hlt, hc⟩ := h.code i x hx
    exact ⟨cb, co, e, hlt, (hb.cell (p := ⟨cb, _, none⟩) (by show cb < _; omega)).trans hc⟩
  · exact (hb.cell (p := ⟨sb, _, none⟩) (by show sb < _; omega)).trans h.c0
  · exact (hb.cell (p := ⟨sb, _, none⟩) (by show sb < _; omega)).trans h.c1
  · exact (hb.cell (p := ⟨sb, _, none⟩) (by show sb < _; omega)).trans h1
  · exact (hb.frozen (p := ⟨sb, j, none⟩) (by show sb < _; omega)).trans (h.fz j)
theorem SrcA.tick {w : World} {sb : Nat} {a : Option Addr} {bs : List Int} {c t : Nat} (h : SrcA w sb a bs c t) (v : Int) (hv : 0 ≤ v ∧ v < 2 ^ 64) : SrcA ((w.setCell ⟨sb, 1, none⟩ (.int .i64 ((t : Int) + 1))).setCell ⟨sb, 2, none⟩ (.int .u64 v)) sb a bs c (t + 1) := by
  obtain ⟨v0, h1, h2⟩ := h.c2
  refine ⟨by rw [World.size_setCell, World.size_setCell]; exact h.lt, fun i x hx => ?_, h.rng, ?_, ?_, ⟨v, ?_, hv⟩, fun j => ?_⟩
  · obtain ⟨cb, co, e, hlt, hc⟩ := h.code i x hx
    refine ⟨cb, co, e, hlt, ?_⟩
    rw [World.cell?_setCell_other _ _ _ _ (by first | (simp; done) | (simp; omega)), World.cell?_setCell_other _ _ _ _ (by first | (simp; done) | (simp; omega))]
    exact hc
  · rw [World.cell?_setCell_other _ _ _ _ (by simp), World.cell?_setCell_other _ _ _ _ (by simp)]; exact h.c0
  · rw [World.cell?_setCell_other _ _ _ _ (by simp)]; exact World.cell?_setCell_same _ _ _ (by rw [h.c1])
  · exact World.cell?_setCell_same _ _ _ (by rw [World.cell?_setCell_other _ _ _ _ (by simp), h1])
  · rw [World.frozen?_setCell, World.frozen?_setCell]; exact h.fz j
theorem u64_and255 (x : Int) (h₀ : 0 ≤ x) (h₁ : x < 2 ^ 64) : bits .and .u64 x 255 = x % 256 := bits_mask .u64 64 (by decide) wraps_u64 8 (by decide) x h₀ h₁
theorem u64_in (x : Int) : 0 ≤ IntKind.u64.wrap x ∧ IntKind.u64.wrap x < 2 ^ 64 := by rw [IntKind.wrap_u64]; omega
set_option maxHeartbeats 1000000 in
theorem srcNext_S (W : World) (sb : Nat) (a : Option Addr) (bs : List Int) (c t : Nat) (hS : SrcA W sb a bs c t) (ht : t ≤ 1000000) (hbl : bs.length ≤ 1000000) :
    Calls Tryz.prog 62 #[.pointer (some ⟨sb, 0, none⟩)] W fun e w' => ∃ r : Int, e = .returned (.int .i64 r) ∧ (0 ≤ r ∧ r ≤ 255) ∧ SrcA w' sb a bs c (t + 1) ∧ Fr sb 1 W w' := by
  have HS := hid hS
  have k0 := hS.c0
  have k1 := hS.c1
  obtain ⟨v, k2, hv⟩ := hS.c2
  have z1 := hS.fz 1
  have z2 := hS.fz 2
  have HF := hid (fun x => (((Fr.store (X := sb) (n := 1) (i := 0) (j := 1) W (.int .i64 ((t : Int) + 1)) (by omega)).trans (Fr.store (X := sb) (n := 1) (i := 0) (j := 2) _ (.int .u64 x) (by omega)))))
  have wt : IntKind.i64.wrap ((t : Int) + 1) = (t : Int) + 1 := IntWalk.i64_in _ (by omega)
  by_cases hlt : t < bs.length
  · have hd : decide ((t : Int) < (bs.length : Int)) = true := by rw [decide_eq_true_iff]; omega
    have hti : (t : Int) < (bs.length : Int) := by omega
    have hd2 : decide ((t : Int) + 1 ≤ (bs.length : Int)) = true := by rw [decide_eq_true_iff]; omega
    have e1 : bs[t]? = some bs[t] := List.getElem?_eq_getElem hlt
    obtain ⟨x, hx⟩ : ∃ x, bs[t] = x := ⟨_, rfl⟩
    rw [hx] at e1
    have hxr := hS.rng x (List.mem_of_getElem? e1)
    obtain ⟨cb, co, rfl, hcb, hc⟩ := hS.code t x e1
    have wx : IntKind.i64.wrap x = x := IntWalk.i64_in _ (by omega)
    have wx2 : IntKind.u64.wrap x = x := wraps_u64 _ (by omega) (by omega)
    obtain ⟨y, hy⟩ : ∃ y, IntKind.u64.wrap (IntKind.u64.wrap (IntKind.u64.wrap (v * 6364136223846793005) + x) + 1442695040888963407) = y := ⟨_, rfl⟩
    have hyr : 0 ≤ y ∧ y < 2 ^ 64 := by rw [← hy]; exact u64_in _
    have hcs : cb ≠ sb := by omega
    clear e1 hx hS
    go_enter Tryz.func62, Tryz.ntmps62
    go_wp2_with fail
    go_region
    go_wp2_with fail
    go_region
    go_wp2_with fail
    go_region
    go_wp2_with fail
    go_ret
    have hT := HS.out.tick y hyr
    have hF := HF.out y
    refine ⟨x, rfl, ⟨hxr.1, hxr.2⟩, ?_, ?_⟩
    · exact hT.keep ((((Below.refl _ _).drew).drew).drew)
    · exact hF.trans (Fr.of_below ((((Below.refl _ _).drew).drew).drew))
  · have hd : decide ((t : Int) < (bs.length : Int)) = false := by rw [decide_eq_false_iff_not]; omega
    have hd2 : decide ((t : Int) + 1 ≤ (bs.length : Int)) = false := by rw [decide_eq_false_iff_not]; omega
    have hti : ¬ (t : Int) < (bs.length : Int) := by omega
    obtain ⟨y, hy⟩ : ∃ y, IntKind.u64.wrap (IntKind.u64.wrap (IntKind.u64.wrap (v * 6364136223846793005)) + 1442695040888963407) = y := ⟨_, rfl⟩
    have hyr : 0 ≤ y ∧ y < 2 ^ 64 := by rw [← hy]; exact u64_in _
    clear hS
    go_enter Tryz.func62, Tryz.ntmps62
    go_wp2_with fail
    go_region
    go_wp2_with fail
    go_region
    go_wp2_with fail
    go_ret
    have hT := HS.out.tick y hyr
    have hF := HF.out y
    have e1 : bits .and .u64 (y / 1099511627776) 255 = (y / 1099511627776) % 256 := u64_and255 _ (by omega) (by omega)
    have e2 : wrap64 ((y / 1099511627776) % 256) = (y / 1099511627776) % 256 := by unfold wrap64; omega
    refine ⟨(y / 1099511627776) % 256, ret_int (by rw [e1, e2]), by omega, ?_, ?_⟩
    · exact hT.keep (((Below.refl _ _).drew).drew)
    · exact hF.trans (Fr.of_below (((Below.refl _ _).drew).drew))
theorem rem_in (x n : Int) (hx : 0 ≤ x) (hn : 1 < n) : 0 ≤ x % n ∧ x % n < n := ⟨Int.emod_nonneg _ (by omega), Int.emod_lt_of_pos _ (by omega)⟩
/-- What a choice of a number below n tells. -/
def PickP (W : World) (sb : Nat) (a : Option Addr) (bs : List Int) (c t : Nat) (n : Int) (e : Ending) (w' : World) : Prop :=
  ∃ (r : Int) (t' : Nat), e = .returned (.int .i64 r) ∧ (0 ≤ r ∧ (r < n ∨ r = 0)) ∧ t' ≤ t + 1 ∧ SrcA w' sb a bs c t' ∧ Fr sb 1 W w'
set_option maxHeartbeats 1000000 in
theorem pick_S (W : World) (sb : Nat) (a : Option Addr) (bs : List Int) (c t : Nat) (n : Int) (hn : n ≤ 200) (hS : SrcA W sb a bs c t) (ht : t ≤ 1000000) (hbl : bs.length ≤ 1000000) :
    Calls Tryz.prog 30 #[.pointer (some ⟨sb, 0, none⟩), .int .i64 n] W (PickP W sb a bs c t n) := by
  have HN := hid (srcNext_S W sb a bs c t hS ht hbl)
  have HS := hid hS
  clear hS
  by_cases h1 : n ≤ 1
  · have e1 : decide (n ≤ 1) = true := decide_eq_true h1
    go_enter Tryz.func30, Tryz.ntmps30
    go_wp2_with fail
    go_ret
    exact ⟨0, t, rfl, ⟨Int.le_refl _, .inr rfl⟩, by omega, HS.out, Fr.refl _ _ _⟩
  · have e1 : decide (n ≤ 1) = false := decide_eq_false h1
    have e2 : decide (n > 200) = false := by rw [decide_eq_false_iff_not]; omega
    have hn0 : n ≠ 0 := by omega
    go_enter Tryz.func30, Tryz.ntmps30
    go_wp2_with fail
    refine HN.out.mono ?_
    rintro e w1 ⟨x, rfl, hx, hS1, hF1⟩
    have HR := hid (rem_in x n hx.1 (by omega))
    have HS1 := hid hS1
    have HF1 := hid hF1
    have htm : x.tmod n = x % n := Int.tmod_eq_emod_of_nonneg hx.1
    have wr : IntKind.i64.wrap (x % n) = x % n := IntWalk.i64_in _ (by have := rem_in x n hx.1 (by omega); omega)
    clear hS1 hF1 h1
    go_wp2_with fail
    go_ret
    exact ⟨x % n, t + 1, rfl, ⟨HR.out.1, .inl HR.out.2⟩, Nat.le_refl _, HS1.out, HF1.out⟩
theorem one_S (W : World) (sb : Nat) (a : Option Addr) (bs : List Int) (c t : Nat) (n : Int) (hn : n ≤ 200) (hS : SrcA W sb a bs c t) (ht : t ≤ 1000000) (hbl : bs.length ≤ 1000000) :
    Calls Tryz.prog 57 #[.pointer (some ⟨sb, 0, none⟩), .int .i64 n] W fun e w' => ∃ (r : Bool) (t' : Nat), e = .returned (.bool r) ∧ t' ≤ t + 1 ∧ SrcA w' sb a bs c t' ∧ Fr sb 1 W w' := by
  have HP := hid (pick_S W sb a bs c t n hn hS ht hbl)
  clear hS
  go_enter Tryz.func57, Tryz.ntmps57
  go_wp2_with fail
  refine HP.out.mono ?_
  rintro e w1 ⟨r, t', rfl, hr, ht', hS1, hF1⟩
  have HS1 := hid hS1
  have HF1 := hid hF1
  clear hS1 hF1
  go_wp2_with fail
  go_ret
  exact ⟨_, t', rfl, ht', HS1.out, HF1.out⟩
/-- A right board of 40 pieces at most. -/
structure DrawOk (wi hi : Int) (xs : List Pc) : Prop where
  w : 1 ≤ wi ∧ wi ≤ 24
  h : 1 ≤ hi ∧ hi ≤ 24
  pc : ∀ p ∈ xs, (0 ≤ p.x ∧ p.x < wi) ∧ (0 ≤ p.y ∧ p.y < hi) ∧ (0 ≤ p.k ∧ p.k ≤ 5) ∧ (0 ≤ p.t ∧ p.t ≤ 3) ∧ (1 ≤ p.d ∧ p.d ≤ 9)
  pw : xs.Pairwise apartP
theorem Fr.cellD {X n : Nat} {W W' : World} (f : Fr X n W W') {p : Addr} {v : Value} (hx : p.block < X ∨ X + n ≤ p.block) (hc : W.cell? p = some v) : W'.cell? p = some v :=
  (World.cell?_of_block (f.block _ (World.block_lt_of_cell? W p hc) hx)).trans hc
theorem Fr.frzD {X n : Nat} {W W' : World} (f : Fr X n W W') {b j : Nat} {u : Bool} (hl : b < W.heap.size) (hx : b < X ∨ X + n ≤ b) (hc : W.frozen? ⟨b, j, none⟩ = u) : W'.frozen? ⟨b, j, none⟩ = u :=
  (World.frozen?_of_block (a := ⟨b, j, none⟩) (f.block _ hl hx)).trans hc
theorem Fr.low {X n B : Nat} {W V V' : World} (f : Fr X n W V) (hb : Below B V V') (hB : W.heap.size ≤ B) : Fr X n W V' :=
  ⟨hb.os.trans f.os, hb.tape.trans f.tape, hb.output.trans f.output, Nat.le_trans f.size hb.size, fun k hk hx => (hb.block k (Nat.lt_of_lt_of_le hk hB)).trans (f.block k hk hx)⟩
theorem heldF {w w' : World} {sb b j1 j2 : Nat} {u v : Value} (f : Fr sb 1 w w') (hb : sb + 1 ≤ b) (h : w.cell? ⟨b, j1, none⟩ = some u ∧ w.cell? ⟨b, j2, none⟩ = some v) : w'.cell? ⟨b, j1, none⟩ = some u ∧ w'.cell? ⟨b, j2, none⟩ = some v := ⟨f.cellD (.inr hb) h.1, f.cellD (.inr hb) h.2⟩
theorem heldA {w w' : World} {p q : Addr} {u v : Value} (hb : Below w.heap.size w w') (h : w.cell? p = some u ∧ w.cell? q = some v) : w'.cell? p = some u ∧ w'.cell? q = some v := ⟨cell_on hb h.1, cell_on hb h.2⟩
theorem heldS {w : World} {o o' : Obj} {b j1 j2 : Nat} {u v : Value} (hb : b < w.heap.size) (h : (w.alloc o).cell? ⟨b, j1, none⟩ = some u ∧ (w.alloc o).cell? ⟨b, j2, none⟩ = some v) : (w.alloc o').cell? ⟨b, j1, none⟩ = some u ∧ (w.alloc o').cell? ⟨b, j2, none⟩ = some v := by
  have k : ∀ o, Below w.heap.size w (w.alloc o) := fun o => (Below.refl _ _).alloc (Nat.le_refl _) o
  exact ⟨((k o').cell (p := ⟨b, j1, none⟩) hb).trans (((k o).cell (p := ⟨b, j1, none⟩) hb).symm.trans h.1), ((k o').cell (p := ⟨b, j2, none⟩) hb).trans (((k o).cell (p := ⟨b, j2, none⟩) hb).symm.trans h.2)⟩
/-- A piece's box, new. -/
structure PZ (w : World) (b : Nat) : Prop where
  lt : b < w.heap.size
  c0 : w.cell? ⟨b, 0, none⟩ = some (.int .i8 0)
  c1 : w.cell? ⟨b, 1, none⟩ = some (.int .i8 0)
  c2 : w.cell? ⟨b, 2, none⟩ = some (.int .i8 0)
  c3 : w.cell? ⟨b, 3, none⟩ = some (.int .i8 0)
  c4 : w.cell? ⟨b, 4, none⟩ = some (.int .i8 0)
  z0 : w.frozen? ⟨b, 0, none⟩ = false
  z1 : w.frozen? ⟨b, 1, none⟩ = false
  z2 : w.frozen? ⟨b, 2, none⟩ = false
  z3 : w.frozen? ⟨b, 3, none⟩ = false
  z4 : w.frozen? ⟨b, 4, none⟩ = false
theorem pz_new (w : World) (t : TypeId) : PZ (w.alloc (.cells #[.int .i8 0, .int .i8 0, .int .i8 0, .int .i8 0, .int .i8 0] t)) w.heap.size :=
  ⟨by simp, by simp [go_sem], by simp [go_sem], by simp [go_sem], by simp [go_sem], by simp [go_sem], by simp [go_sem], by simp [go_sem], by simp [go_sem], by simp [go_sem], by simp [go_sem]⟩
theorem pz_new2 (w : World) (t : TypeId) : PZ (w.alloc (.cells #[.int .i8 0, .int .i8 0, .int .i8 0, .int .i8 0, .int .i8 0] t)).drew w.heap.size :=
  ⟨by simp, by simp [go_sem], by simp [go_sem], by simp [go_sem], by simp [go_sem], by simp [go_sem], by simp [go_sem], by simp [go_sem], by simp [go_sem], by simp [go_sem], by simp [go_sem]⟩
theorem PZ.fr {w w' : World} {b sb : Nat} (f : Fr sb 1 w w') (hb : sb + 1 ≤ b) (h : PZ w b) : PZ w' b :=
  ⟨Nat.lt_of_lt_of_le h.lt f.size, f.cellD (.inr hb) h.c0, f.cellD (.inr hb) h.c1, f.cellD (.inr hb) h.c2, f.cellD (.inr hb) h.c3, f.cellD (.inr hb) h.c4, f.frzD h.lt (.inr hb) h.z0, f.frzD h.lt (.inr hb) h.z1, f.frzD h.lt (.inr hb) h.z2, f.frzD h.lt (.inr hb) h.z3, f.frzD h.lt (.inr hb) h.z4⟩
theorem src_new (w : World) (a : Option Addr) (bs : List Int) (c : Nat) (t : TypeId) (hr : ∀ x ∈ bs, 0 ≤ x ∧ x ≤ 255) (h : ∀ i x, bs[i]? = some x → ∃ cb co, a = some ⟨cb, co, none⟩ ∧ w.cell? ⟨cb, co + i, none⟩ = some (.int .u8 x)) :
    SrcA (w.alloc (.cells #[.slice a bs.length c, .int .i64 0, .int .u64 0] t)) w.heap.size a bs c 0 := by
  have hb : ∀ o, Below w.heap.size w (w.alloc o) := fun o => (Below.refl _ _).alloc (Nat.le_refl _) o
  refine ⟨by simp, fun i x hx => ?_, hr, by simp [go_sem], by simp [go_sem], ⟨0, by simp [go_sem], by omega, by omega⟩, fun j => by simp [go_sem]⟩
  obtain ⟨cb, co, e, hc⟩ := h i x hx
  exact ⟨cb, co, e, World.block_lt_of_cell? w _ hc, cell_on (hb _) hc⟩
theorem srcFrom_S (a : Option Addr) (n c : Nat) (w : World) :
    Calls Tryz.prog 29 #[.slice a n c] w fun e w' => e = .returned (.pointer (some ⟨w.heap.size, 0, none⟩)) ∧ w' = w.alloc (.cells #[.slice a n c, .int .i64 0, .int .u64 0] 80) := by
  go_enter Tryz.func29, Tryz.ntmps29
  go_wp2_with fail
  go_ret
  exact ⟨rfl, rfl⟩
theorem set5 {B b : Nat} {w : World} (h : B ≤ b) (u0 u1 u2 u3 u4 : Value) : Below B w (((((w.setCell ⟨b, 0, none⟩ u0).setCell ⟨b, 1, none⟩ u1).setCell ⟨b, 2, none⟩ u2).setCell ⟨b, 3, none⟩ u3).setCell ⟨b, 4, none⟩ u4) :=
  (((((Below.refl _ _).setCell h _).setCell h _).setCell h _).setCell h _).setCell h _
set_option maxRecDepth 100000 in
set_option maxHeartbeats 16000000 in
theorem pieceDrawn_S (W : World) (sb : Nat) (a : Option Addr) (bs : List Int) (c t : Nat) (x y : Int) (hS : SrcA W sb a bs c t) (ht : t ≤ 100000) (hbl : bs.length ≤ 1000000) :
    Calls Tryz.prog 61 #[.pointer (some ⟨sb, 0, none⟩), .agg #[.int .i8 x, .int .i8 y]] W fun e w' => ∃ (p : Pc) (t' : Nat), e = .returned (.agg #[.int .i8 p.x, .int .i8 p.y, .int .i8 p.k, .int .i8 p.t, .int .i8 p.d]) ∧ (p.x = x ∧ p.y = y ∧ (0 ≤ p.k ∧ p.k ≤ 5) ∧ (0 ≤ p.t ∧ p.t ≤ 3) ∧ (1 ≤ p.d ∧ p.d ≤ 9)) ∧ t' ≤ t + 4 ∧ SrcA w' sb a bs c t' ∧ Fr sb 1 W w' := by
  obtain ⟨W1, hW1⟩ : ∃ W1, W1 = (W.alloc (.cells #[.int .i8 x, .int .i8 y] 74)).alloc (.cells #[.int .i8 0, .int .i8 0, .int .i8 0, .int .i8 0, .int .i8 0] 76) := ⟨_, rfl⟩
  have hsl := hS.lt
  have hB1 : Below W.heap.size W W1 := by rw [hW1]; exact ((Below.refl _ _).alloc (Nat.le_refl _) _).alloc (by simp) _
  have hS1 := hS.keep (hB1.mono (by omega))
  have HS1 := hid hS1
  have HB1 := hid hB1
  have f0 : W1.cell? ⟨W.heap.size, 0, none⟩ = some (.int .i8 x) := by rw [hW1]; simp [go_sem]
  have f1 : W1.cell? ⟨W.heap.size, 1, none⟩ = some (.int .i8 y) := by rw [hW1]; simp [go_sem]
  have HRz := hid (show PZ W1 (W.heap.size + 1) by
    rw [hW1]
    have h := pz_new (W.alloc (.cells #[.int .i8 x, .int .i8 y] 74)) 76
    rw [World.size_alloc] at h
    exact h)
  have hw1 : W.heap.size + 2 ≤ W1.heap.size := by rw [hW1]; simp
  clear hS hB1 hS1
  go_enter Tryz.func61, Tryz.ntmps61
  go_upto_region 1 with fail
  rw [← hW1]
  clear hW1
  go_cut [5] from 6 to 13 (fun s5 wx => ∃ (pb tt : Nat) (k tn : Int), s5 = .pointer (some ⟨pb, 0, none⟩) ∧ W.heap.size + 2 ≤ pb ∧ wx.cell? ⟨pb, 0, none⟩ = some (.int .i8 x) ∧ wx.cell? ⟨pb, 1, none⟩ = some (.int .i8 y) ∧ wx.cell? ⟨pb, 2, none⟩ = some (.int .i8 k) ∧ wx.cell? ⟨pb, 3, none⟩ = some (.int .i8 tn) ∧ wx.cell? ⟨pb, 4, none⟩ = some (.int .i8 1) ∧ (0 ≤ k ∧ k ≤ 5) ∧ (0 ≤ tn ∧ tn ≤ 3) ∧ tt ≤ t + 2 ∧ SrcA wx sb a bs c tt ∧ Fr sb 1 W1 wx ∧ wx.frozen? ⟨pb, 4, none⟩ = false)
  case first =>
    go_region_held3 (fun w' => w'.cell? ⟨W.heap.size, 0, none⟩ = some (.int .i8 x) ∧ w'.cell? ⟨W.heap.size, 1, none⟩ = some (.int .i8 y))
      (first | with_reducible assumption | with_reducible exact ⟨g2, k2⟩ | with_reducible exact ⟨g1, k1⟩ | with_reducible exact ⟨f0, f1⟩ | with_reducible exact ⟨cell_on ((Below.refl v2.heap.size v2).alloc (Nat.le_refl _) _) g2, cell_on ((Below.refl v2.heap.size v2).alloc (Nat.le_refl _) _) k2⟩ | with_reducible exact ⟨cell_on ((Below.refl v1.heap.size v1).alloc (Nat.le_refl _) _) g1, cell_on ((Below.refl v1.heap.size v1).alloc (Nat.le_refl _) _) k1⟩ | with_reducible exact ⟨cell_on ((Below.refl W1.heap.size W1).drew) f0, cell_on ((Below.refl W1.heap.size W1).drew) f1⟩ | with_reducible exact ⟨cell_on (((Below.refl W1.heap.size W1).alloc (Nat.le_refl _) _).drew) f0, cell_on (((Below.refl W1.heap.size W1).alloc (Nat.le_refl _) _).drew) f1⟩ | (constructor <;> (simp [go_sem, *]; done)) | fail)
      (first
        | (go_at_call 30; have mark := hSP1; refine (pick_S _ sb a bs c t1 _ (by omega) ?hs (by omega) hbl).mono ?_; (case hs => first | with_reducible exact hSP1 | with_reducible exact hSP1.keep ((Below.refl _ _).alloc (by have := hSP1.lt; omega) _)); rintro e v2 ⟨r2, t2, rfl, hr2, ht2, hSP2, hF2⟩; have sz2 := hF2.size; (try simp only [World.size_alloc, World.size_drew] at sz2); have wr2 : IntKind.i8.wrap r2 = r2 := IntWalk.i8_in _ (by omega); have g2 := hF2.cellD (p := ⟨W.heap.size, 0, none⟩) (.inr (by show sb + 1 ≤ W.heap.size; omega)) (by first | with_reducible exact g1 | with_reducible exact cell_on ((Below.refl v1.heap.size v1).alloc (Nat.le_refl _) _) g1); have k2 := hF2.cellD (p := ⟨W.heap.size, 1, none⟩) (.inr (by show sb + 1 ≤ W.heap.size; omega)) (by first | with_reducible exact k1 | with_reducible exact cell_on ((Below.refl v1.heap.size v1).alloc (Nat.le_refl _) _) k1); (first | (have PP : PZ v2 W1.heap.size := (by refine PZ.fr hF2 (by omega) (PZ.fr hF1 (by omega) ?_); exact pz_new2 W1 _); obtain ⟨l2, y0, y1, y2, y3, y4, u0, u1, u2, u3, u4⟩ := PP) | (have PP : PZ v2 v1.heap.size := (by refine PZ.fr hF2 (by omega) ?_; exact pz_new v1 _); obtain ⟨l2, y0, y1, y2, y3, y4, u0, u1, u2, u3, u4⟩ := PP) | skip))
        | (go_at_call 30; refine (pick_S _ sb a bs c t _ (by omega) ?hs (by omega) hbl).mono ?_; (case hs => first | with_reducible exact HS1.out | with_reducible exact HS1.out.keep ((Below.refl _ _).drew) | with_reducible exact HS1.out.keep (((Below.refl _ _).alloc (by have := HS1.out.lt; omega) _).drew)); rintro e v1 ⟨r1, t1, rfl, hr1, ht1, hSP1, hF1⟩; have sz1 := hF1.size; (try simp only [World.size_alloc, World.size_drew] at sz1); have wr1 : IntKind.i8.wrap r1 = r1 := IntWalk.i8_in _ (by omega); have g1 := hF1.cellD (p := ⟨W.heap.size, 0, none⟩) (.inr (by show sb + 1 ≤ W.heap.size; omega)) (by first | with_reducible exact cell_on ((Below.refl W1.heap.size W1).drew) f0 | with_reducible exact cell_on (((Below.refl W1.heap.size W1).alloc (Nat.le_refl _) _).drew) f0); have k1 := hF1.cellD (p := ⟨W.heap.size, 1, none⟩) (.inr (by show sb + 1 ≤ W.heap.size; omega)) (by first | with_reducible exact cell_on ((Below.refl W1.heap.size W1).drew) f1 | with_reducible exact cell_on (((Below.refl W1.heap.size W1).alloc (Nat.le_refl _) _).drew) f1)))
    all_goals (
      go_wp2_with fail
      go_meet
      refine ⟨_, t2, r1, r2, rfl, by omega, ?_, ?_, ?_, ?_, ?_, by omega, by omega, by omega, ?_, ?_, ?_⟩)
    all_goals (first
      | with_reducible exact hSP2.keep ((Below.refl _ _).alloc (by omega) _)
      | with_reducible exact hSP2.keep (set5 (by omega) _ _ _ _ _)
      | with_reducible exact (((Fr.of_below ((Below.refl _ _).drew)).trans hF1).trans hF2).trans (Fr.of_below ((Below.refl _ _).alloc (Nat.le_refl _) _))
      | with_reducible exact ((((Fr.of_below ((Below.refl _ _).drew)).trans hF1).trans (Fr.of_below ((Below.refl _ _).alloc (Nat.le_refl _) _))).trans hF2).low (set5 (B := W1.heap.size) (by omega) _ _ _ _ _) (Nat.le_refl _)
      | with_reducible exact (((Fr.of_below (((Below.refl _ _).alloc (Nat.le_refl _) _).drew)).trans hF1).trans hF2).low (set5 (B := W1.heap.size) (Nat.le_refl _) _ _ _ _ _) (Nat.le_refl _)
      | exact hSP2.keep ((Below.refl _ _).alloc (by omega) _)
      | exact hSP2.keep (set5 (by omega) _ _ _ _ _)
      | exact (((Fr.of_below ((Below.refl _ _).drew)).trans hF1).trans hF2).trans (Fr.of_below ((Below.refl _ _).alloc (Nat.le_refl _) _))
      | exact ((((Fr.of_below ((Below.refl _ _).drew)).trans hF1).trans (Fr.of_below ((Below.refl _ _).alloc (Nat.le_refl _) _))).trans hF2).low (set5 (B := W1.heap.size) (by omega) _ _ _ _ _) (Nat.le_refl _)
      | exact (((Fr.of_below (((Below.refl _ _).alloc (Nat.le_refl _) _).drew)).trans hF1).trans hF2).low (set5 (B := W1.heap.size) (Nat.le_refl _) _ _ _ _ _) (Nat.le_refl _)
      | (simp [go_sem]; done)
      | (simp [go_sem, *]; done))
  case rest =>
    obtain ⟨pb, tt, k, tn, rfl, hpb, p0, p1, p2, p3, p4, hk, htn, htt, hSx, hFx, hfz⟩ := hcut
    have HO := hid (one_S wc sb a bs c tt 3 (by omega) hSx (by omega) hbl)
    have hRx := PZ.fr hFx (by omega) HRz.out
    have hzx := hFx.size
    have HFx := hid ((Fr.of_below (X := sb) (n := 1) (HB1.out)).trans hFx)
    have hne : pb ≠ W.heap.size + 1 := by omega
    clear hSx hFx f0 f1
    go_wp2_with fail
    refine HO.out.mono ?_
    rintro e v1 ⟨r, t3, rfl, ht3, hS1, hF1⟩
    have q0 := hF1.cellD (.inr (by show sb + 1 ≤ pb; omega)) p0
    have q1 := hF1.cellD (.inr (by show sb + 1 ≤ pb; omega)) p1
    have q2 := hF1.cellD (.inr (by show sb + 1 ≤ pb; omega)) p2
    have q3 := hF1.cellD (.inr (by show sb + 1 ≤ pb; omega)) p3
    have q4 := hF1.cellD (.inr (by show sb + 1 ≤ pb; omega)) p4
    have qz : v1.frozen? ⟨pb, 4, none⟩ = false := hF1.frzD (World.block_lt_of_cell? wc _ p0) (.inr (by omega)) hfz
    have hR1 := PZ.fr hF1 (by omega) hRx
    have HF1 := hid (HFx.out.trans hF1)
    have hz1 := hF1.size
    cases r with
    | false =>
      obtain ⟨ly, y0, y1, y2, y3, y4, u0, u1, u2, u3, u4⟩ := hR1
      have HS1 := hid hS1
      clear hS1 hF1 hRx p0 p1 p2 p3 p4 hfz HO
      go_wp2_with fail
      refine bodyPost_ret (v := .agg #[.int .i8 x, .int .i8 y, .int .i8 k, .int .i8 tn, .int .i8 1]) (by simp [results, Tryz.results61, go_sem, y0, y1, y2, y3, y4]) rfl ⟨⟨x, y, k, tn, 1⟩, t3, rfl, ⟨rfl, rfl, hk, htn, by dsimp only; omega⟩, by omega, ?_, ?_⟩
      · exact HS1.out.keep (set5 (by omega) _ _ _ _ _)
      · exact HF1.out.low (set5 (B := W.heap.size) (by omega) _ _ _ _ _) (Nat.le_refl _)
    | true =>
      have HP := hid (pick_S v1 sb a bs c t3 4 (by omega) hS1 (by omega) hbl)
      have HQ := hid (show _ ∧ _ ∧ _ ∧ _ ∧ _ ∧ _ from ⟨q0, q1, q2, q3, q4, qz⟩)
      have HR1 := hid hR1
      clear hS1 hF1 hR1 hRx p0 p1 p2 p3 p4 hfz HO q0 q1 q2 q3 q4 qz
      go_wp2_with fail
      refine HP.out.mono ?_
      rintro e v2 ⟨r2, t4, rfl, hr2, ht4, hS2, hF2⟩
      obtain ⟨q0, q1, q2, q3, q4, qz⟩ := HQ.out
      have o0 := hF2.cellD (.inr (by show sb + 1 ≤ pb; omega)) q0
      have o1 := hF2.cellD (.inr (by show sb + 1 ≤ pb; omega)) q1
      have o2 := hF2.cellD (.inr (by show sb + 1 ≤ pb; omega)) q2
      have o3 := hF2.cellD (.inr (by show sb + 1 ≤ pb; omega)) q3
      have o4 := hF2.cellD (.inr (by show sb + 1 ≤ pb; omega)) q4
      have oz : v2.frozen? ⟨pb, 4, none⟩ = false := hF2.frzD (World.block_lt_of_cell? v1 _ q0) (.inr (by omega)) qz
      obtain ⟨ly, y0, y1, y2, y3, y4, u0, u1, u2, u3, u4⟩ := PZ.fr hF2 (by omega) HR1.out
      have HF2 := hid (HF1.out.trans hF2)
      have HS2 := hid hS2
      have wa : IntKind.i64.wrap (1 + r2) = 1 + r2 := IntWalk.i64_in _ (by omega)
      have wb : IntKind.i8.wrap (1 + r2) = 1 + r2 := IntWalk.i8_in _ (by omega)
      clear hS2 hF2 q0 q1 q2 q3 q4 qz
      go_wp2_with fail
      refine bodyPost_ret (v := .agg #[.int .i8 x, .int .i8 y, .int .i8 k, .int .i8 tn, .int .i8 (1 + r2)]) (by simp [results, Tryz.results61, go_sem, y0, y1, y2, y3, y4, hne]) rfl ⟨⟨x, y, k, tn, 1 + r2⟩, t4, rfl, ⟨rfl, rfl, hk, htn, by dsimp only; omega⟩, by omega, ?_, ?_⟩
      · exact (HS2.out.keep ((Below.refl (sb + 1) _).setCell (by show sb + 1 ≤ pb; omega) _)).keep (set5 (by omega) _ _ _ _ _)
      · exact (HF2.out.low ((Below.refl W.heap.size _).setCell (by show W.heap.size ≤ pb; omega) _) (Nat.le_refl _)).low (set5 (B := W.heap.size) (by omega) _ _ _ _ _) (Nat.le_refl _)
end Go.Proofs.YthhfndifcdiomaaGreat
