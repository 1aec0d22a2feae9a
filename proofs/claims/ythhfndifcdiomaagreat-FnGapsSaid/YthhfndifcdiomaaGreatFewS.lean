/-
  Plain law of the search for the fewest gaps; a frame of worlds in which some boxes alone are written.
  The search for gaps, the reference's.
  FewestGaps, the reference's.
  Conditions: none; plain law. the board is a built one; the depth is 4 at most. the fields are in their kinds' ranges.
-/
import Derived.Test.YthhfndifcdiomaaGreatLeftS
import Derived.Test.YthhfndifcdiomaaGreatSafe
import Derived.Deep.RegionHeld3
namespace Go.Proofs.YthhfndifcdiomaaGreat
open Go.RowKit
set_option linter.unusedSimpArgs false
set_option linter.unusedVariables false

abbrev FewR := List Int × Int × Nat
def leafG (xs : List Pc) (most : Int) (bud : Nat) (gs : List Int) (t : Nat) : FewR := if t = bud then ([], 7, t) else if leftG xs gs ≤ most then (gs, 0, t + 1) else ([], 6, t + 1)
def loopG (f : Nat → Nat → FewR) : Nat → Nat → Nat → FewR
  | 0, _, t => ([], 6, t)
  | k + 1, i, t => if (f i t).2.1 = 6 then loopG f k (i + 1) (f i t).2.2 else f i t
def lookG (xs : List Pc) (most : Int) (bud : Nat) : Nat → List Int → Nat → Nat → FewR
  | 0, gs, _, t => leafG xs most bud gs t
  | d + 1, gs, from_, t => loopG (fun i t => lookG xs most bud d (gs ++ [(i : Int)]) (i + 1) t) (xs.length - from_) from_ t
/-- What a search tells: a list where the code is 0 alone; not more tries than may be. -/
def FewOk (bud m : Nat) (r : FewR) : Prop := (r.2.1 = 0 ∨ r.2.1 = 6 ∨ r.2.1 = 7) ∧ (r.2.1 ≠ 0 → r.1 = []) ∧ r.2.2 ≤ bud ∧ r.1.length ≤ m
theorem loop_ok {f : Nat → Nat → FewR} {bud m : Nat} (h : ∀ i t, t ≤ bud → FewOk bud m (f i t)) : ∀ k i t, t ≤ bud → FewOk bud m (loopG f k i t)
  | 0, _, t, ht => ⟨.inr (.inl rfl), fun _ => rfl, ht, Nat.zero_le _⟩
  | k + 1, i, t, ht => by
    unfold loopG
    have h1 := h i t ht
    split
    · exact loop_ok h k (i + 1) _ h1.2.2.1
    · exact h1
theorem look_ok (xs : List Pc) (most : Int) (bud : Nat) : ∀ d gs from_ t, t ≤ bud → FewOk bud (gs.length + d) (lookG xs most bud d gs from_ t)
  | 0, gs, from_, t, ht => by
    unfold lookG leafG
    split
    · exact ⟨.inr (.inr rfl), fun _ => rfl, ht, Nat.zero_le _⟩
    · split
      · exact ⟨.inl rfl, fun h => absurd rfl h, by show t + 1 ≤ bud; omega, Nat.le_refl _⟩
      · exact ⟨.inr (.inl rfl), fun _ => rfl, by show t + 1 ≤ bud; omega, Nat.zero_le _⟩
  | d + 1, gs, from_, t, ht => by
    unfold lookG
    refine loop_ok (fun i t ht => ?_) _ _ _ ht
    have := look_ok xs most bud d (gs ++ [(i : Int)]) (i + 1) t ht
    rw [List.length_append, List.length_singleton, Nat.add_right_comm, Nat.add_assoc] at this
    exact this
theorem loop_go {f : Nat → Nat → FewR} {k i t : Nat} (h : (f i t).2.1 = 6) : loopG f (k + 1) i t = loopG f k (i + 1) (f i t).2.2 := by
  conv => lhs; unfold loopG
  rw [if_pos h]
theorem loop_at {f : Nat → Nat → FewR} {k i t : Nat} (h : (f i t).2.1 ≠ 6) : loopG f (k + 1) i t = f i t := by
  conv => lhs; unfold loopG
  rw [if_neg h]
def fewT (xs : List Pc) (most : Int) (bud cnt : Nat) : FewR := loopG (fun n t => lookG xs most bud n [] 0 t) (cnt + 1) 0 0
def FewestGapsG (wi hi : Int) (xs : List Pc) (most cnt bud : Int) : List Int × Int × Int :=
  if builtG wi hi xs = 0 then
    (if most < 0 ∨ inB cnt 0 4 = false ∨ inB bud 0 300 = false then ([], 0, 2)
     else if (fewT xs most bud.toNat cnt.toNat).2.1 = 0 then ((fewT xs most bud.toNat cnt.toNat).1, ((fewT xs most bud.toNat cnt.toNat).2.2 : Int), 0)
     else ([], 0, (fewT xs most bud.toNat cnt.toNat).2.1))
  else ([], 0, builtG wi hi xs)
/-- The same, with any bound on the depth. -/
theorem loop_okc {f : Nat → Nat → FewR} {bud m : Nat} : ∀ k i t, (∀ j t, i ≤ j → j < i + k → t ≤ bud → FewOk bud m (f j t)) → t ≤ bud → FewOk bud m (loopG f k i t)
  | 0, _, t, _, ht => ⟨.inr (.inl rfl), fun _ => rfl, ht, Nat.zero_le _⟩
  | k + 1, i, t, h, ht => by
    unfold loopG
    have h1 := h i t (Nat.le_refl _) (by omega) ht
    split
    · exact loop_okc k (i + 1) _ (fun j t hj hk ht => h j t (by omega) (by omega) ht) h1.2.2.1
    · exact h1
theorem few_ok (xs : List Pc) (most : Int) (bud cnt : Nat) (hc : cnt ≤ 4) : FewOk bud 4 (fewT xs most bud cnt) := by
  refine loop_okc _ _ _ (fun j t _ hj ht => ?_) (Nat.zero_le _)
  have h := look_ok xs most bud j [] 0 t ht
  exact ⟨h.1, h.2.1, h.2.2.1, Nat.le_trans h.2.2.2 (by simp; omega)⟩
theorem FewestGaps_len (wi hi : Int) (xs : List Pc) (most cnt bud : Int) (h : xs.length ≤ 1048576) : (FewestGapsG wi hi xs most cnt bud).1.length ≤ 1048576 := by
  unfold FewestGapsG
  split
  · split
    · simp
    · rename_i hb
      have hcnt : inB cnt 0 4 = true := by cases hh : inB cnt 0 4 with | true => rfl | false => exact absurd (.inr (.inl hh)) hb
      have h1 := (few_ok xs most bud.toNat cnt.toNat (by have := inB_iff.1 hcnt; omega)).2.2.2
      split
      · exact Nat.le_trans h1 (by omega)
      · simp
  · simp
/-- A world in which n boxes from the X-th on are written, and new memory is made. -/
structure Fr (X n : Nat) (W W' : World) : Prop where
  os : W'.os = W.os
  tape : W'.tape = W.tape
  output : W'.output = W.output
  size : W.heap.size ≤ W'.heap.size
  block : ∀ k, k < W.heap.size → (k < X ∨ X + n ≤ k) → W'.heap[k]? = W.heap[k]?
theorem Fr.refl (X n : Nat) (W : World) : Fr X n W W := ⟨rfl, rfl, rfl, Nat.le_refl _, fun _ _ _ => rfl⟩
theorem Fr.trans {X n : Nat} {a b c : World} (h : Fr X n a b) (k : Fr X n b c) : Fr X n a c :=
  ⟨k.os.trans h.os, k.tape.trans h.tape, k.output.trans h.output, Nat.le_trans h.size k.size, fun i hi hx => (k.block i (Nat.lt_of_lt_of_le hi h.size) hx).trans (h.block i hi hx)⟩
theorem Fr.of_below {X n : Nat} {W W' : World} (h : Below W.heap.size W W') : Fr X n W W' := ⟨h.os, h.tape, h.output, h.size, fun k hk _ => h.block k hk⟩
theorem Fr.store {X n i j : Nat} (W : World) (v : Value) (hi : i < n) : Fr X n W (W.setCell ⟨X + i, j, none⟩ v) := by
  have G := setCell_grown W (X + i) j v
  exact ⟨G.os, G.tape, G.output, G.size, fun k hk hx => G.block k hk (fun e => by cases e; omega)⟩
theorem Fr.down {X n : Nat} {Wb W W' : World} (h : Below X Wb W) (f : Fr X n W W') (hX : X ≤ W.heap.size) : Below X Wb W' :=
  h.trans ⟨f.os, f.tape, f.output, f.size, fun k hk => f.block k (Nat.lt_of_lt_of_le hk hX) (.inl hk)⟩
theorem Fr.own {X n : Nat} {W W' : World} {e : TypeId} {size : Nat} {v : Value} {k : Nat} {l : List Value} (f : Fr X n W W') (h : W.ownsRow (X + n) e size v k l) : W'.ownsRow (X + n) e size v k l := by
  refine ⟨h.1, ?_⟩
  rcases h.2 with h1 | ⟨g, cap, cur, h1, h2, h3, h4⟩
  · exact .inl h1
  · exact .inr ⟨g, cap, cur, h1, h2, (f.block g (Array.getElem?_eq_some_iff.1 h3).1 (.inr h2)).trans h3, h4⟩
theorem own_some {w : World} {base n c : Nat} {e : TypeId} {size : Nat} {g : Nat} {xs : List Value} (h : w.ownsRow base e size (.slice (some ⟨g, 0, none⟩) n c) n xs) : g < w.heap.size ∧ base ≤ g := by
  rcases h.2 with ⟨h1, _⟩ | ⟨g2, cap, cur, h1, h2, h3, _⟩
  · cases h1
  · injection h1 with h4
    cases h4
    exact ⟨(Array.getElem?_eq_some_iff.1 h3).1, h2⟩
theorem contains_len2 (a : Option Addr) (c : Nat) (xs : List Int) (n : Int) (w : World) (h : SlA en1 1 w a xs) (m : Nat) (hm : m = xs.length) :
    Calls Tryz.prog 38 #[.slice a m c, .int .i64 n] w fun e w' => e = .returned (.bool (xs.any (isN n))) ∧ Below w.heap.size w w' := by
  subst hm
  exact contains_en1_I a c xs n w h
theorem has_len_S (a : Option Addr) (c : Nat) (xs : List Int) (n : Int) (w : World) (h : SlA en1 1 w a xs) (m : Nat) (hm : m = xs.length) :
    Calls Tryz.prog 41 #[.slice a m c, .int .i64 n] w fun e w' => e = .returned (.bool (xs.any (isN n))) ∧ Below w.heap.size w w' := by
  subst hm
  exact has_S a c xs n w h
theorem left_lenT_S (b : Nat) (wi hi : Int) (a : Option Addr) (c : Nat) (xs : List Pc) (a2 : Option Addr) (c2 : Nat) (gs : List Int) (w : World) (hB : BrdOk xs) (hn : xs.length ≤ 60) (hb : BdA w b wi hi a xs.length c) (h : SlA Pc.enc 5 w a xs) (h2 : SlA en1 1 w a2 gs) (m : Nat) (hm : m = gs.length) :
    Calls Tryz.prog 54 #[.pointer (some ⟨b, 0, none⟩), .slice a2 m c2] w fun e w' => e = .returned (.int .i64 (leftG xs gs)) ∧ Below w.heap.size w w' := by
  subst hm
  exact left_S b wi hi a c xs a2 c2 gs w hB hn hb h h2
theorem without_lenT_I (b : Nat) (wi hi : Int) (a : Option Addr) (c : Nat) (xs : List Pc) (a2 : Option Addr) (c2 : Nat) (gs : List Int) (w : World) (hs : xs.length ≤ 1048576) (hb : BdA w b wi hi a xs.length c) (h : SlA Pc.enc 5 w a xs) (h2 : SlA en1 1 w a2 gs) (m : Nat) (hm : m = gs.length) :
    Calls Tryz.prog 46 #[.pointer (some ⟨b, 0, none⟩), .slice a2 m c2] w (ResBd w wi hi (keepL gs 0 xs)) := by
  subst hm
  exact without_I b wi hi a c xs a2 c2 gs w hs hb h h2
/-- The search's box. -/
structure SxS (Wb W : World) (bb : Nat) (most : Int) (bud t : Nat) : Prop where
  below : Below Wb.heap.size Wb W
  c0 : W.cell? ⟨Wb.heap.size, 0, none⟩ = some (.pointer (some ⟨bb, 0, none⟩))
  c1 : W.cell? ⟨Wb.heap.size, 1, none⟩ = some (.int .i64 most)
  c2 : W.cell? ⟨Wb.heap.size, 2, none⟩ = some (.int .i64 (bud : Nat))
  c3 : W.cell? ⟨Wb.heap.size, 3, none⟩ = some (.int .i64 (t : Nat))
  fz : ∀ j, W.frozen? ⟨Wb.heap.size, j, none⟩ = false
theorem SxS.lt {Wb W : World} {bb : Nat} {most : Int} {bud t : Nat} (h : SxS Wb W bb most bud t) : Wb.heap.size < W.heap.size := World.block_lt_of_cell? W ⟨_, 0, none⟩ h.c0
theorem SxS.later {Wb W W1 : World} {bb : Nat} {most : Int} {bud t : Nat} (h : SxS Wb W bb most bud t) (hb : Below W.heap.size W W1) : SxS Wb W1 bb most bud t :=
  ⟨below_of h.below h.below.size hb, cell_on hb h.c0, cell_on hb h.c1, cell_on hb h.c2, cell_on hb h.c3, fun j => (hb.frozen (p := ⟨_, j, none⟩) h.lt).trans (h.fz j)⟩
theorem SxS.tick {Wb W : World} {bb : Nat} {most : Int} {bud t : Nat} (h : SxS Wb W bb most bud t) : SxS Wb (W.setCell ⟨Wb.heap.size, 3, none⟩ (.int .i64 ((t + 1 : Nat) : Int))) bb most bud (t + 1) := by
  refine ⟨h.below.setCell (Nat.le_refl _) _, ?_, ?_, ?_, ?_, fun j => ?_⟩
  · rw [World.cell?_setCell_other _ _ _ _ (by simp)]; exact h.c0
  · rw [World.cell?_setCell_other _ _ _ _ (by simp)]; exact h.c1
  · rw [World.cell?_setCell_other _ _ _ _ (by simp)]; exact h.c2
  · rw [World.cell?_setCell_same _ _ _ (by rw [h.c3])]
  · rw [World.frozen?_setCell]; exact h.fz j
def LookP (Wb : World) (bb : Nat) (most : Int) (bud : Nat) (W : World) (R : FewR) (e : Ending) (W' : World) : Prop :=
  ∃ A' c', e = .returned (.tuple #[.slice A' R.1.length c', .int .i64 R.2.1]) ∧ Fr Wb.heap.size 1 W W' ∧ SxS Wb W' bb most bud R.2.2 ∧ W'.ownsRow (Wb.heap.size + 1) 2 1 (.slice A' R.1.length c') R.1.length (R.1.flatMap en1)
set_option maxRecDepth 100000 in
set_option maxHeartbeats 4000000 in
theorem look_S (Wb : World) (bb : Nat) (wi hi : Int) (a : Option Addr) (c : Nat) (xs : List Pc) (most : Int) (bud : Nat) (hB : BrdOk xs) (hn : xs.length ≤ 60) (hbud : bud ≤ 300)
    (HBD : ∀ W, Below Wb.heap.size Wb W → BdA W bb wi hi a xs.length c ∧ SlA Pc.enc 5 W a xs) :
    ∀ (d : Nat) (W : World) (gs : List Int) (A : Option Addr) (cA from_ t : Nat), gs.length + d ≤ 4 → from_ ≤ xs.length → t ≤ bud → SxS Wb W bb most bud t →
      W.ownsRow (Wb.heap.size + 1) 2 1 (.slice A gs.length cA) gs.length (gs.flatMap en1) → ∀ m : Nat, m = gs.length →
      Calls Tryz.prog 52 #[.pointer (some ⟨Wb.heap.size, 0, none⟩), .slice A m cA, .int .i64 from_, .int .i64 d] W (LookP Wb bb most bud W (lookG xs most bud d gs from_ t)) := by
  have hHBD := hid HBD
  clear HBD
  intro d
  induction d with
  | zero =>
    intro W gs A cA from_ t hd hfr ht hS own m hm
    have HM := hid hm
    rw [← hm] at hd own
    clear hm
    have HS := hid hS
    have HO := hid own
    have hlt := hS.lt
    have c2 := hS.c2
    have c3 := hS.c3
    have fz := hS.fz 3
    clear hS own
    by_cases htb : t = bud
    · have e1 : ((t : Int) == (bud : Int)) = true := by simp [htb]
      have HR := hid (show lookG xs most bud 0 gs from_ t = ([], 7, t) by unfold lookG leafG; rw [if_pos htb])
      clear htb
      go_enter Tryz.func52, Tryz.ntmps52
      go_wp2_with fail
      go_quiet (fail)
      go_wp2_with fail
      refine bodyPost_ret (v := .tuple #[.slice (some ⟨W.heap.size, 0, none⟩) 0 0, .int .i64 7]) (by simp [results, Tryz.results52, go_sem]) rfl ?_
      rw [HR.out]
      have hb : ∀ nq, Below W.heap.size W (((W.drewN nq)).alloc (.cells #[] 2)) := fun nq => (below_drewN (Below.refl _ _) nq).alloc (Nat.le_refl _) _
      exact ⟨_, _, rfl, Fr.of_below (hb _), HS.out.later (hb _), World.ownsRow_lit (W.drewN _) #[] 0 (by show _ ≤ W.heap.size; omega) (by simp [maxLen]) (by simp)⟩
    · have e1 : ((t : Int) == (bud : Int)) = false := by simp; omega
      have hw1 : IntKind.i64.wrap ((t : Int) + 1) = (t : Int) + 1 := IntWalk.i64_in _ (by omega)
      obtain ⟨W1, hW1⟩ : ∃ W1, W1 = (W.setCell ⟨Wb.heap.size, 3, none⟩ (.int .i64 ((t : Int) + 1))).drew := ⟨_, rfl⟩
      have hS1 : SxS Wb W1 bb most bud (t + 1) := by rw [hW1]; exact HS.out.tick.later ((Below.refl _ _).drew)
      have hF1 : Fr Wb.heap.size 1 W W1 := by
        rw [hW1]
        exact (Fr.store (X := Wb.heap.size) (n := 1) (i := 0) (j := 3) W (.int .i64 ((t : Int) + 1)) (by omega)).trans (Fr.of_below ((Below.refl _ _).drew))
      have own1 := hF1.own HO.out
      have d0 := hS1.c0
      have d1 := hS1.c1
      obtain ⟨hbd, hsl⟩ := hHBD.out W1 hS1.below
      have HLe := hid (fun W2 (hb : Below W1.heap.size W1 W2) => left_lenT_S bb wi hi a c xs A cA gs W2 hB hn (hbd.below hb hbd.lt) (hsl.below hb) ((en1_row (by rw [← HM.out]; exact own1 : W1.ownsRow (Wb.heap.size + 1) 2 1 (.slice A gs.length cA) gs.length (gs.flatMap en1))).below hb) m HM.out)
      have HO1 := hid own1
      have HS1 := hid hS1
      have HF1 := hid hF1
      obtain ⟨L, hL⟩ : ∃ L, leftG xs gs = L := ⟨_, rfl⟩
      rw [hL] at HLe
      have hLk : lookG xs most bud 0 gs from_ t = if L ≤ most then (gs, 0, t + 1) else ([], 6, t + 1) := by rw [← hL]; unfold lookG leafG; rw [if_neg htb]
      clear htb own1 hS1 hF1 hbd hsl hL
      by_cases hlm : L ≤ most
      · have e2 : decide (L ≤ most) = true := decide_eq_true hlm
        have HR := hid (show lookG xs most bud 0 gs from_ t = (gs, 0, t + 1) by rw [hLk, if_pos hlm])
        clear hLk
        go_enter Tryz.func52, Tryz.ntmps52
        go_wp2_with fail
        go_region
        go_wp2_with fail
        rw [← hW1]
        clear hW1
        go_region_held3 (fun w' => w'.cell? ⟨Wb.heap.size, 0, none⟩ = some (.pointer (some ⟨bb, 0, none⟩)) ∧ w'.cell? ⟨Wb.heap.size, 1, none⟩ = some (.int .i64 most))
          (first | with_reducible exact ⟨d0, d1⟩ | with_reducible assumption | exact ⟨cell_on hbL (by with_reducible assumption), cell_on hbL (by with_reducible assumption)⟩ | exact ⟨cell_on ((Below.refl _ _).drew) d0, cell_on ((Below.refl _ _).drew) d1⟩ | exact ⟨cell_on hbL (cell_on ((Below.refl _ _).drew) d0), cell_on hbL (cell_on ((Below.refl _ _).drew) d1)⟩)
          (first | (go_at_call 54; refine (HLe.out _ ?hb0).mono ?_; (case hb0 => first | exact (Below.refl _ _).drew | exact Below.refl _ _); rintro e w' ⟨rfl, hbL⟩))
        go_wp2_with fail
        refine bodyPost_ret (v := .tuple #[.slice A m cA, .int .i64 0]) (by simp [results, Tryz.results52, go_sem]) rfl ?_
        rw [HR.out]
        have hbW := below_of ((Below.refl W1.heap.size W1).drew) (by simp) hbL
        have hF2 := Fr.of_below (X := Wb.heap.size) (n := 1) hbW
        exact ⟨A, cA, by rw [HM.out], HF1.out.trans hF2, HS1.out.later hbW, by rw [← HM.out]; exact hF2.own HO1.out⟩
      · have e2 : decide (L ≤ most) = false := decide_eq_false hlm
        have HR := hid (show lookG xs most bud 0 gs from_ t = ([], 6, t + 1) by rw [hLk, if_neg hlm])
        clear hLk
        go_enter Tryz.func52, Tryz.ntmps52
        go_wp2_with fail
        go_region
        go_wp2_with fail
        rw [← hW1]
        clear hW1
        go_region_held3 (fun w' => w'.cell? ⟨Wb.heap.size, 0, none⟩ = some (.pointer (some ⟨bb, 0, none⟩)) ∧ w'.cell? ⟨Wb.heap.size, 1, none⟩ = some (.int .i64 most))
          (first | with_reducible exact ⟨d0, d1⟩ | with_reducible assumption | exact ⟨cell_on hbL (by with_reducible assumption), cell_on hbL (by with_reducible assumption)⟩ | exact ⟨cell_on ((Below.refl _ _).drew) d0, cell_on ((Below.refl _ _).drew) d1⟩ | exact ⟨cell_on hbL (cell_on ((Below.refl _ _).drew) d0), cell_on hbL (cell_on ((Below.refl _ _).drew) d1)⟩)
          (first | (go_at_call 54; refine (HLe.out _ ?hb0).mono ?_; (case hb0 => first | exact (Below.refl _ _).drew | exact Below.refl _ _); rintro e w' ⟨rfl, hbL⟩))
        go_wp2_with fail
        refine bodyPost_ret (v := .tuple #[.slice (some ⟨w'.heap.size, 0, none⟩) 0 0, .int .i64 6]) (by simp [results, Tryz.results52, go_sem]) rfl ?_
        rw [HR.out]
        have hbW := below_of ((Below.refl W1.heap.size W1).drew) (by simp) hbL
        have hbZ := (below_of hbW (by have := hbW.size; omega) ((Below.refl w'.heap.size w').alloc (Nat.le_refl _) (.cells #[] 2)))
        exact ⟨_, _, rfl, HF1.out.trans (Fr.of_below hbZ), HS1.out.later hbZ, World.ownsRow_lit w' #[] 0 (by have := hbW.size; have := HS1.out.lt; omega) (by simp [maxLen]) (by simp)⟩
  | succ d ih =>
    intro W gs A cA from_ t hd hfr ht hS own m hm
    have HM := hid hm
    rw [← hm] at hd own
    clear hm
    have HS := hid hS
    have HO := hid own
    clear hS own
    have hih := hid ih
    clear ih
    obtain ⟨f, hf⟩ : ∃ f : Nat → Nat → FewR, f = fun (i t : Nat) => lookG xs most bud d (gs ++ [(i : Int)]) (i + 1) t := ⟨_, rfl⟩
    have HF := hid (fun (i t : Nat) => (by rw [hf] : f i t = lookG xs most bud d (gs ++ [(i : Int)]) (i + 1) t))
    obtain ⟨R, hR⟩ : ∃ R, lookG xs most bud (d + 1) gs from_ t = R := ⟨_, rfl⟩
    have HLK := hid (show loopG f (xs.length - from_) from_ t = R by rw [← hR, hf]; rfl)
    rw [hR]
    clear hf hR
    obtain ⟨D, hD⟩ : ∃ D : Int, ((d + 1 : Nat) : Int) = D := ⟨_, rfl⟩
    rw [hD]
    have e1 : (D == 0) = false := by simp; omega
    have ws : IntKind.i64.wrap (D - 1) = (d : Int) := (IntWalk.i64_in _ (by omega)).trans (by omega)
    clear hD
    have HNC := hid (own_nilcase HO.out)
    go_enter Tryz.func52, Tryz.ntmps52
    go_wp2_with fail
    go_loopw [10] (fun iv wr => ∃ i t1 : Nat, from_ ≤ i ∧ i ≤ xs.length ∧ t1 ≤ bud ∧ iv = .int .i64 i ∧ SxS Wb wr bb most bud t1 ∧ wr.ownsRow (Wb.heap.size + 1) 2 1 (.slice A m cA) m (gs.flatMap en1) ∧ Fr Wb.heap.size 1 W wr ∧ loopG f (xs.length - i) i t1 = R) (fun iv _ => xs.length - (intOf iv).toNat)
    case atStart => exact ⟨from_, t, Nat.le_refl _, hfr, ht, rfl, HS.out, HO.out, Fr.refl _ _ _, HLK.out⟩
    case round =>
      obtain ⟨i, t1, hi1, hi2, ht1, rfl, hS, own, hFr, hlp⟩ := hrel
      have HS1 := hid hS
      have HO1 := hid own
      have HF1 := hid hFr
      have HL1 := hid hlp
      have c0 := hS.c0
      have hlW := hS.lt
      obtain ⟨hbd, hsl⟩ := hHBD.out wr hS.below
      have q2 := hbd.c2
      by_cases hlt : i < xs.length
      · have hdl : decide ((i : Int) < (xs.length : Int)) = true := by rw [decide_eq_true_iff]; omega
        have wi1 : IntKind.i64.wrap ((i : Int) + 1) = (i : Int) + 1 := IntWalk.i64_in _ (by omega)
        have HR3 := hid (fun o => ((en1_row (by rw [← HM.out]; exact own : wr.ownsRow (Wb.heap.size + 1) 2 1 (.slice A gs.length cA) gs.length (gs.flatMap en1))).below ((Below.refl wr.heap.size wr).alloc (Nat.le_refl _) o) : SlA en1 1 (wr.alloc o) A gs).flat en1_length)
        have HFL := hid (flat_one gs (i : Int))
        obtain ⟨r, hr⟩ : ∃ r, f i t1 = r := ⟨_, rfl⟩
        have HRR := hid hr
        have HOK := hid (look_ok xs most bud d (gs ++ [(i : Int)]) (i + 1) t1 ht1)
        rw [← HF.out, hr] at HOK
        have HI := hid (fun W2 A2 c2 hS2 own2 => (show Calls Tryz.prog 52 #[.pointer (some ⟨Wb.heap.size, 0, none⟩), .slice A2 (m + 1) c2, .int .i64 ((i : Int) + 1), .int .i64 d] W2 (LookP Wb bb most bud W2 r) by
          rw [← hr, HF.out]
          exact hih.out W2 (gs ++ [(i : Int)]) A2 c2 (i + 1) t1 (by rw [List.length_append, List.length_singleton, ← HM.out]; omega) (by omega) ht1 hS2 own2 (m + 1) (by rw [List.length_append, List.length_singleton, ← HM.out])))
        have HLN := hid (show (gs ++ [(i : Int)]).length = m + 1 by rw [List.length_append, List.length_singleton, ← HM.out])
        clear hS own hFr hlp hbd hsl hr
        go_wp2_with (at_builtin; refine app_many rfl _ _ 29 rfl wr.heap.size 2 (.int .i64 0) 1 8 Tryz.underlying29 (by kernel_rfl) rfl (by decide) _ 0 [] rfl (World.ownsRow_lit wr #[] 0 (Nat.le_refl _) (by simp [maxLen]) (by simp)) A m cA (gs.flatMap en1) rfl ?c1 ?c6 ?c2 ?c3 ?c4 (by decide) ?c5 ?_)
        case c1 => rw [flatMap_len en1_length, ← HM.out]
        case c6 => intro hm0; exact HR3.out _ (by rw [← HM.out]; exact hm0)
        case c2 => exact oneCell_flat (fun p u hu => by simp [en1] at hu; subst hu; rfl) _
        case c3 => exact fun _ => HNC.out
        case c4 => omega
        case c5 => simp
        intro v4 w4 own4 hg4 hat4
        try simp only [Nat.zero_add, List.nil_append] at own4
        obtain ⟨A4, c4, rfl⟩ := own_slice own4
        have hb4 : Below wr.heap.size wr w4 := ((Below.refl _ _).alloc (Nat.le_refl _) _).grown hg4 (by simp) (by simp [Value.ownBlock])
        have HB4 := hid hb4
        have HO4 := hid own4
        have hz4 := hb4.size
        clear own4 hg4 hat4 hb4
        go_wp2_with (at_builtin; refine app_one (w := w4) 29 2 (.int .i64 0) 1 8 Tryz.underlying29 (by kernel_rfl) rfl (by decide) wr.heap.size _ m _ HO4.out ?d1 (by decide) hz4 [.int .i64 (i : Int)] _ _ rfl rfl rfl _ rfl ?d3 rfl (by intro u hu; simp at hu; rcases hu with rfl; rfl) ?_)
        case d1 => omega
        case d3 => rfl
        intro A5 c5 w5 own5 hb5 hg5 hat5
        have hb5' := HB4.out.trans hb5
        have HB5 := hid hb5'
        have hz5 := hb5'.size
        rw [← HFL.out] at own5
        have own5' : w5.ownsRow (Wb.heap.size + 1) 2 1 (.slice A5 (m + 1) c5) (m + 1) ((gs ++ [(i : Int)]).flatMap en1) := own_low own5 (by omega)
        rw [← HLN.out] at own5'
        have HI5 := hid (HI.out w5 A5 c5 (HS1.out.later hb5') own5')
        clear own5 own5' hb5 hg5 hat5 hb5'
        go_wp2_with fail
        refine HI5.out.mono ?_
        rintro e w6 ⟨A6, c6, rfl, hF6, hS6, own6⟩
        have F56 := (Fr.of_below (X := Wb.heap.size) (n := 1) HB5.out).trans hF6
        have HF6 := hid (HF1.out.trans F56)
        have HO6 := hid (F56.own HO1.out)
        have HS6 := hid hS6
        have HN6 := hid own6
        obtain ⟨rc, hrc⟩ : ∃ rc, r.2.1 = rc := ⟨_, rfl⟩
        rw [hrc]
        have HRC := hid hrc
        clear F56 hF6 hS6 own6 hrc
        by_cases h6 : rc = 6
        · have e6 : (rc != 6) = false := by simp [h6]
          have hlp2 : loopG f (xs.length - (i + 1)) (i + 1) r.2.2 = R := by
            rw [← HL1.out, show xs.length - i = xs.length - (i + 1) + 1 by omega, loop_go (by rw [HRR.out, HRC.out]; exact h6), HRR.out]
          have HL2 := hid hlp2
          clear hlp2 h6
          go_wp2_with fail
          exact ⟨⟨i + 1, r.2.2, by omega, by omega, HOK.out.2.2.1, by go_num, HS6.out, HO6.out, HF6.out, HL2.out⟩, by simp [intOf]; omega⟩
        · have e6 : (rc != 6) = true := by simpa using h6
          have hlp2 : R = r := by
            rw [← HL1.out, show xs.length - i = xs.length - (i + 1) + 1 by omega, loop_at (by rw [HRR.out, HRC.out]; exact h6), HRR.out]
          have HL2 := hid hlp2
          clear hlp2 h6
          go_wp2_with fail
          refine bodyPost_ret (v := .tuple #[.slice A6 r.1.length c6, .int .i64 rc]) (by simp [results, Tryz.results52, go_sem]) rfl ?_
          rw [HL2.out]
          exact ⟨A6, c6, by rw [HRC.out], HF6.out, HS6.out, HN6.out⟩
      · obtain rfl : i = xs.length := by omega
        have hdl : decide ((xs.length : Int) < (xs.length : Int)) = false := by rw [decide_eq_false_iff_not]; omega
        clear hS own hFr hlp hbd hsl
        go_wp2_with fail
        refine bodyPost_ret (v := .tuple #[.slice (some ⟨wr.heap.size, 0, none⟩) 0 0, .int .i64 6]) (by simp [results, Tryz.results52, go_sem]) rfl ?_
        have hl := HL1.out
        rw [Nat.sub_self] at hl
        rw [← hl]
        have hb : ∀ o, Below wr.heap.size wr (wr.alloc o) := fun o => (Below.refl _ _).alloc (Nat.le_refl _) o
        exact ⟨_, _, rfl, HF1.out.trans (Fr.of_below (hb _)), HS1.out.later (hb _), World.ownsRow_lit wr #[] 0 (by omega) (by simp [maxLen]) (by simp)⟩
theorem sxs_new (w : World) (bb : Nat) (most : Int) (bud : Nat) : SxS w (w.alloc (.cells #[.pointer (some ⟨bb, 0, none⟩), .int .i64 most, .int .i64 bud, .int .i64 0] 67)) bb most bud 0 :=
  ⟨(Below.refl _ _).alloc (Nat.le_refl _) _, by simp [go_sem], by simp [go_sem], by simp [go_sem], by simp [go_sem], fun j => by simp [go_sem]⟩
set_option maxRecDepth 100000 in
set_option maxHeartbeats 4000000 in
theorem FewestGaps_S (w : World) (wi hi : Int) (wl : -128 ≤ wi) (wu : wi ≤ 127) (hl : -128 ≤ hi) (hu : hi ≤ 127) (a : Option Addr) (c : Nat) (xs : List Pc) (h : SlA Pc.enc 5 w a xs) (_ : a = none → c = 0) (ok : ∀ p ∈ xs, p.Ok) (hs : xs.length ≤ 1048576) (most : Int) (ml : -9223372036854775808 ≤ most) (mu : most ≤ 9223372036854775807) (cnt : Int) (cl : -9223372036854775808 ≤ cnt) (cu : cnt ≤ 9223372036854775807) (bud : Int) (bl : -9223372036854775808 ≤ bud) (bu : bud ≤ 9223372036854775807) :
    Calls Tryz.prog 18 #[.agg #[.int .i8 wi, .int .i8 hi, .slice a xs.length c], .int .i64 most, .int .i64 cnt, .int .i64 bud] w (ResS2 en1 1 2 w (FewestGapsG wi hi xs most cnt bud).1 (FewestGapsG wi hi xs most cnt bud).2.1 (FewestGapsG wi hi xs most cnt bud).2.2) := by
  obtain ⟨W0, hW0⟩ : ∃ W, W = w.alloc (.cells #[.int .i8 wi, .int .i8 hi, .slice a xs.length c] 27) := ⟨_, rfl⟩
  have B0 : Below w.heap.size w W0 := by rw [hW0]; exact (Below.refl _ _).alloc (Nat.le_refl _) _
  have hbd : BdA W0 w.heap.size wi hi a xs.length c := by rw [hW0]; exact bd_box _ _ _ _ _ _ _
  have HAs := hid (asked7_S w.heap.size wi hi a c xs W0 ⟨wl, wu, hl, hu⟩ hbd (h.below B0) ok)
  have HB0 := hid B0
  have HBD := hid (fun W (hb : Below W0.heap.size W0 W) => (⟨hbd.below hb hbd.lt, (h.below B0).below hb⟩ : BdA W w.heap.size wi hi a xs.length c ∧ SlA Pc.enc 5 W a xs))
  obtain ⟨v, hv⟩ : ∃ v, builtG wi hi xs = v := ⟨_, rfl⟩
  rw [hv] at HAs
  by_cases hv0 : v = 0
  · subst hv0
    obtain ⟨hB, hn⟩ := built_zero hv
    by_cases hbad : most < 0 ∨ inB cnt 0 4 = false ∨ inB bud 0 300 = false
    · have HG := hid (show FewestGapsG wi hi xs most cnt bud = ([], 0, 2) by unfold FewestGapsG; rw [if_pos hv, if_pos hbad])
      have hcases : (decide (most < 0) = true) ∨ (decide (most < 0) = false ∧ inB cnt 0 4 = false) ∨ (decide (most < 0) = false ∧ inB cnt 0 4 = true ∧ inB bud 0 300 = false) := by
        by_cases h1 : most < 0
        · exact .inl (decide_eq_true h1)
        · cases h2 : inB cnt 0 4 with
          | false => exact .inr (.inl ⟨decide_eq_false h1, rfl⟩)
          | true => exact .inr (.inr ⟨decide_eq_false h1, rfl, by rcases hbad with h | h | h; exact absurd h h1; rw [h2] at h; cases h; exact h⟩)
      clear B0 hbd h hv hbad
      rcases hcases with k1 | ⟨k1, k2⟩ | ⟨k1, k2, k3⟩
      all_goals (
        go_enter Tryz.func18, Tryz.ntmps18
        go_wp2_with fail
        rw [← hW0]
        clear hW0
        refine HAs.out.mono ?_
        rintro e w1 ⟨rfl, hb1⟩
        have HB1 := hid (below_of HB0.out HB0.out.size hb1)
        clear hb1
        go_wp2_with (go_at_call 51; refine (in_S _ _ _ _).mono ?_; rintro e w' ⟨rfl, rfl⟩)
        refine bodyPost_ret (v := .tuple #[.slice (some ⟨w1.heap.size, 0, none⟩) 0 0, .int .i64 0, .int .i64 2]) (by simp [results, Tryz.results18, go_sem]) rfl ?_
        rw [HG.out]
        exact ResS2.empty HB1.out)
    · have hgood : (¬ most < 0) ∧ inB cnt 0 4 = true ∧ inB bud 0 300 = true := by
        refine ⟨fun h => hbad (.inl h), ?_, ?_⟩
        · cases h2 : inB cnt 0 4 with
          | true => rfl
          | false => exact absurd (.inr (.inl h2)) hbad
        · cases h2 : inB bud 0 300 with
          | true => rfl
          | false => exact absurd (.inr (.inr h2)) hbad
      obtain ⟨k0, k2, k3⟩ := hgood
      have k1 : decide (most < 0) = false := decide_eq_false k0
      have rc := inB_iff.1 k2
      have rb := inB_iff.1 k3
      obtain ⟨C, rfl⟩ : ∃ C : Nat, cnt = C := ⟨cnt.toNat, by omega⟩
      obtain ⟨B, rfl⟩ : ∃ B : Nat, bud = B := ⟨bud.toNat, by omega⟩
      obtain ⟨R, hR⟩ : ∃ R, fewT xs most B C = R := ⟨_, rfl⟩
      have HG := hid (show FewestGapsG wi hi xs most C B = if R.2.1 = 0 then (R.1, (R.2.2 : Int), 0) else ([], 0, R.2.1) by unfold FewestGapsG; rw [if_pos hv, if_neg hbad, Int.toNat_natCast, Int.toNat_natCast, hR])
      obtain ⟨f, hf⟩ : ∃ f : Nat → Nat → FewR, f = fun (n t : Nat) => lookG xs most B n [] 0 t := ⟨_, rfl⟩
      have HF := hid (fun (n t : Nat) => (by rw [hf] : f n t = lookG xs most B n [] 0 t))
      have HLK := hid (show loopG f (C + 1) 0 0 = R by rw [← hR, hf]; rfl)
      have HB := hid hB
      have hC4 : C ≤ 4 := by omega
      have hB3 : B ≤ 300 := by omega
      clear B0 hbd h hv hbad hR hf k0 rc rb hB
      go_enter Tryz.func18, Tryz.ntmps18
      go_wp2_with fail
      rw [← hW0]
      clear hW0
      refine HAs.out.mono ?_
      rintro e w1 ⟨rfl, hb1⟩
      have HB1 := hid (below_of HB0.out HB0.out.size hb1)
      have HW1 := hid hb1
      have hz1 := HB1.out.size
      clear hb1
      obtain ⟨W2, hW2⟩ : ∃ W, W = w1.alloc (.cells #[.pointer (some ⟨w.heap.size, 0, none⟩), .int .i64 most, .int .i64 B, .int .i64 0] 67) := ⟨_, rfl⟩
      have HS2 := hid (show SxS w1 W2 w.heap.size most B 0 by rw [hW2]; exact sxs_new _ _ _ _)
      have HLo := hid (look_S w1 w.heap.size wi hi a c xs most B HB.out (by omega) hB3 (fun W hW => HBD.out W (below_of HW1.out HW1.out.size hW)))
      go_wp2_with (go_at_call 51; refine (in_S _ _ _ _).mono ?_; rintro e w' ⟨rfl, rfl⟩)
      rw [← hW2]
      clear hW2
      go_loopw [13] (fun iv wr => ∃ n t : Nat, n ≤ C + 1 ∧ t ≤ B ∧ iv = .int .i64 n ∧ SxS w1 wr w.heap.size most B t ∧ Fr w1.heap.size 1 W2 wr ∧ loopG f (C + 1 - n) n t = R) (fun iv _ => C + 1 - (intOf iv).toNat)
      case atStart => exact ⟨0, 0, Nat.zero_le _, Nat.zero_le _, rfl, HS2.out, Fr.refl _ _ _, HLK.out⟩
      case round =>
        obtain ⟨n, t, hn1, ht, rfl, hS, hFr, hlp⟩ := hrel
        have HS := hid hS
        have HFr := hid hFr
        have HLp := hid hlp
        have hlt := hS.lt
        clear hS hFr hlp
        by_cases hnC : n ≤ C
        · have hd : decide ((n : Int) ≤ (C : Int)) = true := by rw [decide_eq_true_iff]; omega
          have ha : Below wr.heap.size wr (wr.alloc (.cells #[] 2)) := (Below.refl _ _).alloc (Nat.le_refl _) _
          obtain ⟨r, hr⟩ : ∃ r, f n t = r := ⟨_, rfl⟩
          have HRR := hid hr
          have HOK := hid (look_ok xs most B n [] 0 t ht)
          rw [← HF.out, hr] at HOK
          have HI := hid (show Calls Tryz.prog 52 #[.pointer (some ⟨w1.heap.size, 0, none⟩), .slice (some ⟨wr.heap.size, 0, none⟩) 0 0, .int .i64 0, .int .i64 n] (wr.alloc (.cells #[] 2)) (LookP w1 w.heap.size most B (wr.alloc (.cells #[] 2)) r) by
            rw [← hr, HF.out]
            exact HLo.out n _ [] _ 0 0 t (by simp; omega) (Nat.zero_le _) ht (HS.out.later ha) (World.ownsRow_lit wr #[] 0 (by omega) (by simp [maxLen]) (by simp)) 0 rfl)
          have HA := hid ha
          clear hr ha
          go_wp2_with fail
          refine HI.out.mono ?_
          rintro e w6 ⟨A6, c6, rfl, hF6, hS6, own6⟩
          have HF6 := hid ((HFr.out.trans (Fr.of_below HA.out)).trans hF6)
          have HS6 := hid hS6
          have HN6 := hid own6
          have c3 := hS6.c3
          have HB6 := hid (below_of HB1.out hz1 ((HS2.out.below.mono (Nat.le_refl _)).trans ((Below.refl w1.heap.size W2))))
          have HT6 := hid (below_of HB1.out hz1 (Fr.down HS2.out.below HF6.out (by have := HS2.out.lt; omega)))
          obtain ⟨rc, hrc⟩ : ∃ rc, r.2.1 = rc := ⟨_, rfl⟩
          rw [hrc]
          have HRC := hid hrc
          have hco := HOK.out.1
          rw [hrc] at hco
          clear hF6 hS6 own6 hrc HB6
          rcases hco with rfl | rfl | rfl
          · have hlp2 : R = r := by
              rw [← HLp.out, show C + 1 - n = C + 1 - (n + 1) + 1 by omega, loop_at (by rw [HRR.out, HRC.out]; decide), HRR.out]
            have HL2 := hid hlp2
            clear hlp2
            go_wp2_with fail
            go_region
            go_wp2_with fail
            refine bodyPost_ret (v := .tuple #[.slice A6 r.1.length c6, .int .i64 (r.2.2 : Nat), .int .i64 0]) (by simp [results, Tryz.results18, go_sem]) rfl ?_
            rw [HG.out, HL2.out, if_pos HRC.out]
            exact ⟨A6, c6, rfl, HT6.out.drew, own_low (own_step HN6.out ((Below.refl _ _).drew)) (by omega)⟩
          · have hlp2 : loopG f (C + 1 - (n + 1)) (n + 1) r.2.2 = R := by
              rw [← HLp.out, show C + 1 - n = C + 1 - (n + 1) + 1 by omega, loop_go (by rw [HRR.out, HRC.out]), HRR.out]
            have HL2 := hid hlp2
            clear hlp2 c3
            go_wp2_with fail
            exact ⟨⟨n + 1, r.2.2, by omega, HOK.out.2.2.1, by go_num, HS6.out, HF6.out, HL2.out⟩, by simp [intOf]; omega⟩
          · have hlp2 : R = r := by
              rw [← HLp.out, show C + 1 - n = C + 1 - (n + 1) + 1 by omega, loop_at (by rw [HRR.out, HRC.out]; decide), HRR.out]
            have HL2 := hid hlp2
            clear hlp2 c3
            go_wp2_with fail
            refine bodyPost_ret (v := .tuple #[.slice (some ⟨w6.heap.size, 0, none⟩) 0 0, .int .i64 0, .int .i64 7]) (by simp [results, Tryz.results18, go_sem]) rfl ?_
            rw [HG.out, HL2.out, if_neg (by rw [HRC.out]; decide), HRC.out]
            exact ResS2.empty HT6.out
        · obtain rfl : n = C + 1 := by omega
          have hd : decide (((C + 1 : Nat) : Int) ≤ (C : Int)) = false := by rw [decide_eq_false_iff_not]; omega
          have hd2 : decide ((C : Int) + 1 ≤ (C : Int)) = false := by rw [decide_eq_false_iff_not]; omega
          have hl := HLp.out
          rw [Nat.sub_self] at hl
          have HR := hid hl.symm
          have HT6 := hid (below_of HB1.out hz1 (Fr.down HS2.out.below HFr.out (by have := HS2.out.lt; omega)))
          clear hl
          go_wp2_with fail
          refine bodyPost_ret (v := .tuple #[.slice (some ⟨wr.heap.size, 0, none⟩) 0 0, .int .i64 0, .int .i64 6]) (by simp [results, Tryz.results18, go_sem]) rfl ?_
          have e6 : R = ([], 6, t) := HR.out
          rw [HG.out, e6]
          exact ResS2.empty HT6.out
  · have HG := hid (show FewestGapsG wi hi xs most cnt bud = ([], 0, v) by unfold FewestGapsG; rw [hv, if_neg hv0])
    have hne : (v != 0) = true := by simpa using hv0
    have heq : (v == 0) = false := by simpa using hv0
    clear B0 hbd h hv hv0
    go_enter Tryz.func18, Tryz.ntmps18
    go_wp2_with fail
    rw [← hW0]
    clear hW0
    refine HAs.out.mono ?_
    rintro e w1 ⟨rfl, hb1⟩
    have HB1 := hid (below_of HB0.out HB0.out.size hb1)
    clear hb1
    go_wp2_with fail
    refine bodyPost_ret (v := .tuple #[.slice (some ⟨w1.heap.size, 0, none⟩) 0 0, .int .i64 0, .int .i64 v]) (by simp [results, Tryz.results18, go_sem]) rfl ?_
    rw [HG.out]
    exact ResS2.empty HB1.out
end Go.Proofs.YthhfndifcdiomaaGreat
