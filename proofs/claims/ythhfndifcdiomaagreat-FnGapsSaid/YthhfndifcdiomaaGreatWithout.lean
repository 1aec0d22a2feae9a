/-
  WithoutPieces, both the program's and the reference's.
  Conditions: the fields are in their kinds' ranges.
-/
import Derived.Test.YthhfndifcdiomaaGreatGapsB
import Derived.Test.YthhfndifcdiomaaGreatApp
import Derived.Deep.RegionLaw
import Derived.Deep.AppendLies
namespace Go.Proofs.YthhfndifcdiomaaGreat
open Go.RowKit
set_option linter.unusedSimpArgs false
set_option linter.unusedVariables false

/-- The pieces that are left without those of some numbers. -/
def keepL (gs : List Int) : Nat → List Pc → List Pc
  | _, [] => []
  | i, p :: l => if gs.any (isN (i : Int)) = true then keepL gs (i + 1) l else p :: keepL gs (i + 1) l
theorem keepL_snoc (gs : List Int) (p : Pc) : ∀ (l : List Pc) (i : Nat), keepL gs i (l ++ [p]) = keepL gs i l ++ (if gs.any (isN ((i + l.length : Nat) : Int)) = true then [] else [p])
  | [], i => by simp [keepL]
  | q :: l, i => by
    have := keepL_snoc gs p l (i + 1)
    simp only [List.cons_append, keepL, this, List.length_cons]
    rw [show i + 1 + l.length = i + (l.length + 1) by omega]
    split <;> simp
theorem keepL_len (gs : List Int) : ∀ (l : List Pc) (i : Nat), (keepL gs i l).length ≤ l.length
  | [], i => by simp [keepL]
  | q :: l, i => by
    have := keepL_len gs l (i + 1)
    unfold keepL
    split
    · simp; omega
    · simp; omega
theorem keepL_step {gs : List Int} {xs : List Pc} {k : Nat} {p : Pc} (hp : xs[k]? = some p) : keepL gs 0 (xs.take (k + 1)) = keepL gs 0 (xs.take k) ++ (if gs.any (isN (k : Int)) = true then [] else [p]) := by
  have hk : k < xs.length := (List.getElem?_eq_some_iff.1 hp).1
  rw [List.take_add_one, hp]
  show keepL gs 0 (xs.take k ++ [p]) = _
  rw [keepL_snoc, List.length_take, Nat.zero_add, Nat.min_eq_left (by omega)]
/-- A board in a box that is written. -/
structure BoxB (w : World) (q : Nat) (wi hi : Int) (A : Option Addr) (n c : Nat) : Prop where
  bd : BdA w q wi hi A n c
  z0 : w.frozen? ⟨q, 0, none⟩ = false
  z1 : w.frozen? ⟨q, 1, none⟩ = false
  z2 : w.frozen? ⟨q, 2, none⟩ = false
theorem BoxB.below {w w1 : World} {q : Nat} {wi hi : Int} {A : Option Addr} {n c B : Nat} (h : BoxB w q wi hi A n c) (hb : Below B w w1) (hB : q < B) : BoxB w1 q wi hi A n c :=
  ⟨h.bd.below hb hB, (hb.frozen (p := ⟨q, _, none⟩) hB).trans h.z0, (hb.frozen (p := ⟨q, _, none⟩) hB).trans h.z1, (hb.frozen (p := ⟨q, _, none⟩) hB).trans h.z2⟩
theorem BoxB.kept {w w1 : World} {q : Nat} {wi hi : Int} {A : Option Addr} {n c : Nat} {row : Option Nat} (h : BoxB w q wi hi A n c) (hg : w.grownBy w1 row) (hne : some q ≠ row) : BoxB w1 q wi hi A n c :=
  ⟨h.bd.kept hg hne, (World.frozen?_of_block (a := ⟨q, _, none⟩) (hg.block q h.bd.lt hne)).trans h.z0, (World.frozen?_of_block (a := ⟨q, _, none⟩) (hg.block q h.bd.lt hne)).trans h.z1, (World.frozen?_of_block (a := ⟨q, _, none⟩) (hg.block q h.bd.lt hne)).trans h.z2⟩
theorem setCell_grown (w : World) (q j : Nat) (v : Value) : w.grownBy (w.setCell ⟨q, j, none⟩ v) (some q) :=
  ⟨rfl, rfl, rfl, by simp, fun k _ hk => heap_setCell_other w ⟨q, j, none⟩ k v (fun e => hk (by simp [e]))⟩
theorem BoxB.store {w : World} {q : Nat} {wi hi : Int} {A : Option Addr} {n c : Nat} (h : BoxB w q wi hi A n c) (A2 : Option Addr) (n2 c2 : Nat) : BoxB (w.setCell ⟨q, 2, none⟩ (.slice A2 n2 c2)) q wi hi A2 n2 c2 := by
  obtain ⟨⟨h0, h1, h2, h3⟩, z0, z1, z2⟩ := h
  exact ⟨⟨by simpa using h0, by simp [go_sem, h1], by simp [go_sem, h2], by rw [World.cell?_setCell_same w _ _ h3]⟩, by simp [go_sem, z0], by simp [go_sem, z1], by simp [go_sem, z2]⟩
/-- A function hands back a board of its own. -/
def ResBd (w : World) (wi hi : Int) (R : List Pc) (e : Ending) (w' : World) : Prop :=
  ∃ A c, e = .returned (.agg #[.int .i8 wi, .int .i8 hi, .slice A R.length c]) ∧ Below w.heap.size w w' ∧ w'.ownsRow w.heap.size 76 5 (.slice A R.length c) R.length (R.flatMap Pc.enc)
/-- .. and a code. -/
def ResB (w : World) (wi hi : Int) (R : List Pc) (cd : Int) (e : Ending) (w' : World) : Prop :=
  ∃ A c, e = .returned (.tuple #[.agg #[.int .i8 wi, .int .i8 hi, .slice A R.length c], .int .i64 cd]) ∧ Below w.heap.size w w' ∧ w'.ownsRow w.heap.size 76 5 (.slice A R.length c) R.length (R.flatMap Pc.enc)
set_option maxRecDepth 100000 in
set_option maxHeartbeats 1600000 in
theorem without_S (b : Nat) (wi hi : Int) (a : Option Addr) (c : Nat) (xs : List Pc) (a2 : Option Addr) (c2 : Nat) (gs : List Int) (w : World) (hs : xs.length ≤ 1048576) (hb : BdA w b wi hi a xs.length c) (h : SlA Pc.enc 5 w a xs) (h2 : SlA en1 1 w a2 gs) :
    Calls Tryz.prog 59 #[.pointer (some ⟨b, 0, none⟩), .slice a2 gs.length c2] w (ResBd w wi hi (keepL gs 0 xs)) := by
  have hbd := hb
  obtain ⟨g9, g0, g1, g2⟩ := hb
  go_enter Tryz.func59, Tryz.ntmps59
  go_wp2_with fail
  go_region
  have HW : Below w.heap.size w ((w.alloc (Obj.cells #[.int .i8 0, .int .i8 0, .slice none 0 0] 27)).alloc (Obj.cells #[.int .i8 wi, .int .i8 hi, .slice none 0 0] 27)).drew := ((((Below.refl _ _).alloc (Nat.le_refl _) _).alloc (by simp) _)).drew
  go_wp2_with fail
  go_loopw [6] (fun i wr => ∃ (k : Nat) (A : Option Addr) (c1 : Nat), k ≤ xs.length ∧ i = .int .i64 k ∧ Below w.heap.size w wr ∧ BoxB wr w.heap.size 0 0 none 0 0 ∧ BoxB wr (w.heap.size + 1) wi hi A (keepL gs 0 (xs.take k)).length c1 ∧ wr.ownsRow (w.heap.size + 2) 76 5 (.slice A (keepL gs 0 (xs.take k)).length c1) (keepL gs 0 (xs.take k)).length ((keepL gs 0 (xs.take k)).flatMap Pc.enc) ∧ w.heap.size + 2 ≤ wr.heap.size) (fun i _ => xs.length - (intOf i).toNat)
  case atStart => exact ⟨0, none, 0, Nat.zero_le _, rfl, HW, ⟨⟨by simp; omega, by simp [go_sem], by simp [go_sem], by simp [go_sem]⟩, by simp [go_sem], by simp [go_sem], by simp [go_sem]⟩, ⟨⟨by simp, by simp [go_sem], by simp [go_sem], by simp [go_sem, keepL]⟩, by simp [go_sem], by simp [go_sem], by simp [go_sem]⟩, World.ownsRow_nil _ _ _ _, by simp⟩
  case round =>
    obtain ⟨k, A, c1, hk, rfl, hbl, hr, hq, own, hsz⟩ := hrel
    by_cases hlt : k < xs.length
    · obtain ⟨b1, o1, rfl, hb1, hc1⟩ := h.cells (by omega)
      have e1 : xs[k]? = some xs[k] := List.getElem?_eq_getElem hlt
      have Hp := hid e1
      clear e1
      generalize xs[k] = p at *
      have HK := hid (keepL_step (gs := gs) Hp.out)
      have k2 : wr.cell? ⟨b, 2, none⟩ = some (.slice (some ⟨b1, o1, none⟩) xs.length c) := (hbl.cell (p := ⟨b, _, none⟩) g9).trans g2
      have Hh := hid (fun W hB => has_S a2 c2 gs (k : Int) W ((h2.below hbl).below hB))
      obtain ⟨d1, hd1⟩ : ∃ d1 : Bool, gs.any (isN (k : Int)) = d1 := ⟨_, rfl⟩
      rw [hd1] at Hh HK
      have hz := hbl.size
      have HC := hid (fun W (hB : Below wr.heap.size wr W) => (hbl.trans (hB.mono hz)).cell (p := ⟨b1, o1 + k * 5, none⟩) hb1)
      obtain ⟨N, hN⟩ : ∃ N, (keepL gs 0 (xs.take k)).length = N := ⟨_, rfl⟩
      obtain ⟨L, hL⟩ : ∃ L, (keepL gs 0 (xs.take k)).flatMap Pc.enc = L := ⟨_, rfl⟩
      have hNl : N ≤ k := by
        have := keepL_len gs (xs.take k) 0
        rw [hN, List.length_take] at this
        omega
      rw [hN] at hq
      rw [hN, hL] at own
      have HNL := hid (show (keepL gs 0 (xs.take k)).length = N ∧ (keepL gs 0 (xs.take k)).flatMap Pc.enc = L from ⟨hN, hL⟩)
      have Ho := hid own
      have HQ := hid hq
      have HR := hid hr
      have HB := hid hbl
      have f0 : w.cell? ⟨b1, o1 + k * 5, none⟩ = some (.int .i8 p.x) := hc1 k _ Hp.out 0 _ rfl
      have f1 : w.cell? ⟨b1, o1 + k * 5 + 1, none⟩ = some (.int .i8 p.y) := hc1 k _ Hp.out 1 _ rfl
      have f2 : w.cell? ⟨b1, o1 + k * 5 + 2, none⟩ = some (.int .i8 p.k) := hc1 k _ Hp.out 2 _ rfl
      have f3 : w.cell? ⟨b1, o1 + k * 5 + 3, none⟩ = some (.int .i8 p.t) := hc1 k _ Hp.out 3 _ rfl
      have f4 : w.cell? ⟨b1, o1 + k * 5 + 4, none⟩ = some (.int .i8 p.d) := hc1 k _ Hp.out 4 _ rfl
      clear hN hL own hq hr hbl hd1 hc1
      go_wp2_with fail
      refine (Hh.out _ (Below.refl _ _)).mono ?_
      rintro e w1 ⟨rfl, hb9⟩
      have hz9 := hb9.size
      have HB1 := hid (below_of HB.out hz hb9)
      have HQ1 := hid (HQ.out.below hb9 (HQ.out.bd.lt))
      have HR1 := hid (HR.out.below hb9 (HR.out.bd.lt))
      have Ho1 := hid (own_step Ho.out hb9)
      clear hb9
      cases d1
      · have hu0 := hid (show (w.heap.size + 2) ≤ w1.heap.size by omega)
        have agb : (Value.slice A N c1).ownBlock ≠ some b := fun e => by have := (Ho1.out.lt b e).1; omega
        have agp : (Value.slice A N c1).ownBlock ≠ some b1 := fun e => by have := (Ho1.out.lt b1 e).1; omega
        have agq : (Value.slice A N c1).ownBlock ≠ some (w.heap.size + 1) := fun e => by have := (Ho1.out.lt _ e).1; omega
        have k2 : w1.cell? ⟨b, 2, none⟩ = some (.slice (some ⟨b1, o1, none⟩) xs.length c) := (HB1.out.cell (p := ⟨b, _, none⟩) g9).trans g2
        replace f0 := (HB1.out.cell (p := ⟨b1, _, none⟩) hb1).trans f0
        replace f1 := (HB1.out.cell (p := ⟨b1, _, none⟩) hb1).trans f1
        replace f2 := (HB1.out.cell (p := ⟨b1, _, none⟩) hb1).trans f2
        replace f3 := (HB1.out.cell (p := ⟨b1, _, none⟩) hb1).trans f3
        replace f4 := (HB1.out.cell (p := ⟨b1, _, none⟩) hb1).trans f4
        have q2 := HQ1.out.bd.c2
        have q2a : ∀ o, (w1.alloc o).cell? ⟨w.heap.size + 1, 2, none⟩ = some (.slice A N c1) := fun o => cell_on ((Below.refl _ _).alloc (Nat.le_refl _) o) q2
        have hN6 : N + 1 ≤ maxLen := by unfold maxLen; omega
        have hN7 : (N + 1) * 5 ≤ 140737488355328 := by omega
        have hb1w : b1 ≠ w1.heap.size := by omega
        have hbw9 : b ≠ w1.heap.size := by omega
        have hqw : w.heap.size + 1 ≠ w1.heap.size := by omega
        have hqb : w.heap.size + 1 ≠ b := by omega
        have hqb1 : w.heap.size + 1 ≠ b1 := by omega
        obtain ⟨i0, hi0, hz0, hz1, hz2⟩ := info_parts (show (Tryz.prog.info? 76).map (fun i => (i.zero, i.size, i.bytes)) = some (some (.agg Pc.z.enc.toArray), 5, 5) by kernel_rfl)
        go_wp2_with fail
        go_region_law
          ((refine step_append_lies _ (by rfl) _ _ _ (by rfl) (w.heap.size + 2) 76 i0 _ 5 5 Tryz.underlying25 hi0 hz0 hz1 hz2 rfl (by omega) (.slice A N c1) N L (by rfl) ((Ho1.out.alloc _).drew)
              ⟨w1.heap.size, 0, none⟩ 1 1 [.int .i8 p.x, .int .i8 p.y, .int .i8 p.k, .int .i8 p.t, .int .i8 p.d] (by rfl) (by rfl) (World.news_of_block (cs := #[.int .i8 p.x, .int .i8 p.y, .int .i8 p.k, .int .i8 p.t, .int .i8 p.d]) (t := 76) (fr := (0, 0)) (heap_alloc_new w1 _)) (by simp [Value.oneCell'])
              (by omega) hN6 hN7 (by simp; omega) (w1.heap.size + 1) (by simp) ?_; intro gg cap w2 hown2 hgrow hat hlt2
            have y2 := ((HQ1.out.below ((Below.refl _ _).alloc (Nat.le_refl _) _).drew HQ1.out.bd.lt).kept hgrow (Ne.symm agq)).bd.c2
            have y3 := ((HQ1.out.below ((Below.refl _ _).alloc (Nat.le_refl _) _).drew HQ1.out.bd.lt).kept hgrow (Ne.symm agq)).z2))
        all_goals (
          have hk1 := HK.out
          simp only [Bool.false_eq_true, if_false] at hk1
          have hl1 : (keepL gs 0 (xs.take k) ++ [p]).length = N + 1 := by rw [List.length_append, HNL.out.1]; rfl
          have hf1 : (keepL gs 0 (xs.take k) ++ [p]).flatMap Pc.enc = L ++ [.int .i8 p.x, .int .i8 p.y, .int .i8 p.k, .int .i8 p.t, .int .i8 p.d] := by rw [List.flatMap_append, HNL.out.2]; simp [Pc.enc]
          have hs2 := hgrow.size
          simp only [World.size_alloc, World.size_drew] at hs2
          have BF := hid ((((HB1.out.alloc (by omega) _).drew).grown hgrow (by simp; omega) (fun k hk => by have := (Ho1.out.lt k hk).1; omega)).setCell (p := ⟨w.heap.size + 1, 2, none⟩) (by simp) (.slice (some ⟨gg, 0, none⟩) (N + 1) cap))
          have QF := hid (((HQ1.out.below ((Below.refl _ _).alloc (Nat.le_refl _) _).drew HQ1.out.bd.lt).kept hgrow (Ne.symm agq)).store (some ⟨gg, 0, none⟩) (N + 1) cap)
          have RF := hid (((HR1.out.below ((Below.refl _ _).alloc (Nat.le_refl _) _).drew HR1.out.bd.lt).kept hgrow (fun e => by have := (Ho1.out.lt _ e.symm).1; omega)).kept (setCell_grown w2 (w.heap.size + 1) 2 (.slice (some ⟨gg, 0, none⟩) (N + 1) cap)) (by simp))
          have OF := hid (World.ownsRow.kept (row := some (w.heap.size + 1)) hown2 (setCell_grown w2 (w.heap.size + 1) 2 (.slice (some ⟨gg, 0, none⟩) (N + 1) cap)) (.inr (fun e => by have := (hown2.lt _ e).1; omega)))
          have HK1 := hid hk1
          have HL1 := hid hl1
          have HF1 := hid hf1
          clear hk1 hl1 hf1 hown2 hgrow hat q2a
          go_wp2_with fail
          refine ⟨⟨k + 1, some ⟨gg, 0, none⟩, cap, by omega, by go_num, BF.out, RF.out, ?_, ?_, by simp; omega⟩, by simp [intOf]; omega⟩
          · rw [HK1.out, HL1.out]; exact QF.out
          · rw [HK1.out, HL1.out, HF1.out]; exact OF.out)
      · go_wp2_with fail
        refine ⟨⟨k + 1, A, c1, by omega, by go_num, HB1.out, HR1.out, ?_, ?_, by omega⟩, by simp [intOf]; omega⟩
        · have := HK.out
          simp only [if_true, List.append_nil] at this
          rw [this, HNL.out.1]
          exact HQ1.out
        · have := HK.out
          simp only [if_true, List.append_nil] at this
          rw [this, HNL.out.1, HNL.out.2]
          exact Ho1.out
    · obtain rfl : k = xs.length := by omega
      have Ho := hid own
      have HB := hid hbl
      rw [List.take_length] at hq
      have HQ := hid hq
      have k2 : wr.cell? ⟨b, 2, none⟩ = some (.slice a xs.length c) := (hbl.cell (p := ⟨b, _, none⟩) g9).trans g2
      obtain ⟨⟨q9, q0, q1, q2⟩, _, _, _⟩ := hq
      obtain ⟨⟨r9, r0, r1, r2⟩, z0, z1, z2⟩ := hr
      clear own hbl
      go_wp2_with fail
      refine bodyPost_ret (v := .agg #[.int .i8 wi, .int .i8 hi, .slice A (keepL gs 0 xs).length c1]) (by simp [results, Tryz.results59, go_sem, r0, r1, r2, r9]) rfl ⟨A, c1, rfl, ?_, ?_⟩
      · repeat (refine Below.setCell ?_ (by simp; try omega) _)
        exact HB.out
      · have own := Ho.out
        rw [List.take_length] at own
        repeat (refine World.ownsRow.kept (row := some w.heap.size) ?_ (setCell_grown _ _ _ _) (.inr (fun e => by have := (own.lt _ e).1; omega)))
        exact own_low own (by omega)
end Go.Proofs.YthhfndifcdiomaaGreat
