/-
  A small board that is drawn; an order that is drawn.
  A small board that is drawn; an order that is drawn.
  Bytes as data: their cell.
  The laws' helpers: two lists are the same, a list has a number, the input is long.
  Conditions: not too many bytes. none.
-/
import Derived.Test.YthhfndifcdiomaaGreatDrawP
import Derived.Test.YthhfndifcdiomaaGreatData
namespace Go.Proofs.YthhfndifcdiomaaGreat
open Go.RowKit
set_option linter.unusedSimpArgs false
set_option linter.unusedVariables false

/-- The pieces that have been drawn before a cell. -/
structure DrL (wi hi y x : Nat) (xs : List Pc) : Prop where
  pc : ∀ p ∈ xs, (0 ≤ p.x ∧ p.x < wi) ∧ (0 ≤ p.y ∧ p.y < hi) ∧ (p.y < y ∨ (p.y = y ∧ p.x < x)) ∧ (0 ≤ p.k ∧ p.k ≤ 5) ∧ (0 ≤ p.t ∧ p.t ≤ 3) ∧ (1 ≤ p.d ∧ p.d ≤ 9)
  pw : xs.Pairwise apartP
  n : xs.length ≤ wi * y + x
theorem DrL.nil (wi hi : Nat) : DrL wi hi 0 0 [] := ⟨fun p hp => absurd hp List.not_mem_nil, List.Pairwise.nil, by simp⟩
theorem DrL.skip {wi hi y x : Nat} {xs : List Pc} (h : DrL wi hi y x xs) : DrL wi hi y (x + 1) xs :=
  ⟨fun p hp => by have := h.pc p hp; omega, h.pw, by have := h.n; omega⟩
theorem DrL.row {wi hi y : Nat} {xs : List Pc} (h : DrL wi hi y wi xs) : DrL wi hi (y + 1) 0 xs :=
  ⟨fun p hp => by have := h.pc p hp; omega, h.pw, by have := h.n; rw [Nat.mul_succ]; omega⟩
theorem DrL.add {wi hi y x : Nat} {xs : List Pc} (h : DrL wi hi y x xs) {p : Pc} (hx : p.x = x) (hy : p.y = y) (hxw : x < wi) (hyh : y < hi) (hk : (0 ≤ p.k ∧ p.k ≤ 5) ∧ (0 ≤ p.t ∧ p.t ≤ 3) ∧ (1 ≤ p.d ∧ p.d ≤ 9)) : DrL wi hi y (x + 1) (xs ++ [p]) := by
  refine ⟨fun q hq => ?_, ?_, by have := h.n; rw [List.length_append, List.length_singleton]; omega⟩
  · rcases List.mem_append.1 hq with hq | hq
    · have := h.pc q hq; omega
    · rw [List.mem_singleton] at hq
      subst hq
      omega
  · rw [List.pairwise_append]
    refine ⟨h.pw, List.pairwise_singleton _ _, fun a ha b hb => ?_⟩
    rw [List.mem_singleton] at hb
    subst hb
    have := h.pc a ha
    unfold apartP
    omega
theorem DrL.ok {wi hi : Nat} {xs : List Pc} (h : DrL wi hi hi 0 xs) (hw : 1 ≤ wi ∧ wi ≤ 24) (hh : 1 ≤ hi ∧ hi ≤ 24) : DrawOk wi hi xs :=
  ⟨by omega, by omega, fun p hp => by have := h.pc p hp; omega, h.pw⟩
/-- The board's box while it is drawn. -/
structure BxD (w : World) (bx : Nat) (wi hi : Int) (A : Option Addr) (n c : Nat) : Prop where
  lt : bx < w.heap.size
  c0 : w.cell? ⟨bx, 0, none⟩ = some (.int .i8 wi)
  c1 : w.cell? ⟨bx, 1, none⟩ = some (.int .i8 hi)
  c2 : w.cell? ⟨bx, 2, none⟩ = some (.slice A n c)
  fz : ∀ j, w.frozen? ⟨bx, j, none⟩ = false
theorem BxD.keep {w w' : World} {bx : Nat} {wi hi : Int} {A : Option Addr} {n c : Nat} (h : BxD w bx wi hi A n c) (hb : Below (bx + 1) w w') : BxD w' bx wi hi A n c :=
  ⟨Nat.lt_of_lt_of_le h.lt hb.size, (hb.cell (p := ⟨bx, _, none⟩) (by show bx < _; omega)).trans h.c0, (hb.cell (p := ⟨bx, _, none⟩) (by show bx < _; omega)).trans h.c1, (hb.cell (p := ⟨bx, _, none⟩) (by show bx < _; omega)).trans h.c2, fun j => (hb.frozen (p := ⟨bx, j, none⟩) (by show bx < _; omega)).trans (h.fz j)⟩
theorem BxD.fr {w w' : World} {bx sb : Nat} {wi hi : Int} {A : Option Addr} {n c : Nat} (h : BxD w bx wi hi A n c) (f : Fr sb 1 w w') (hb : sb + 1 ≤ bx) : BxD w' bx wi hi A n c :=
  ⟨Nat.lt_of_lt_of_le h.lt f.size, f.cellD (.inr hb) h.c0, f.cellD (.inr hb) h.c1, f.cellD (.inr hb) h.c2, fun j => f.frzD h.lt (.inr hb) (h.fz j)⟩
theorem BxD.store {w : World} {bx : Nat} {wi hi : Int} {A B : Option Addr} {n c m d : Nat} (h : BxD w bx wi hi A n c) : BxD (w.setCell ⟨bx, 2, none⟩ (.slice B m d)) bx wi hi B m d :=
  ⟨by rw [World.size_setCell]; exact h.lt, by rw [World.cell?_setCell_other _ _ _ _ (by simp)]; exact h.c0, by rw [World.cell?_setCell_other _ _ _ _ (by simp)]; exact h.c1, World.cell?_setCell_same _ _ _ (by rw [h.c2]), fun j => by rw [World.frozen?_setCell]; exact h.fz j⟩
theorem Fr.ownB {X n : Nat} {W W' : World} {base : Nat} {e : TypeId} {size : Nat} {v : Value} {k : Nat} {l : List Value} (f : Fr X n W W') (hb : X + n ≤ base) (h : W.ownsRow base e size v k l) : W'.ownsRow base e size v k l := by
  refine ⟨h.1, ?_⟩
  rcases h.2 with h1 | ⟨g, cap, cur, h1, h2, h3, h4⟩
  · exact .inl h1
  · exact .inr ⟨g, cap, cur, h1, h2, (f.block g (Array.getElem?_eq_some_iff.1 h3).1 (.inr (Nat.le_trans hb h2))).trans h3, h4⟩
theorem own_setD {w : World} {base n : Nat} {e : TypeId} {size : Nat} {v : Value} {xs : List Value} (h : w.ownsRow base e size v n xs) {b j : Nat} (hb : ∀ k, v.ownBlock = some k → k ≠ b) (u : Value) : (w.setCell ⟨b, j, none⟩ u).ownsRow base e size v n xs :=
  World.ownsRow.kept (row := some b) h (setCell_grown w b j u) (by
    cases hv : v.ownBlock with
    | none => exact .inl rfl
    | some k => exact .inr (fun e => hb k hv (by injection e)))
theorem flat_Pc (l : List Pc) (p : Pc) : (l ++ [p]).flatMap Pc.enc = l.flatMap Pc.enc ++ [.int .i8 p.x, .int .i8 p.y, .int .i8 p.k, .int .i8 p.t, .int .i8 p.d] := by rw [List.flatMap_append]; simp [Pc.enc]
set_option maxRecDepth 100000 in
set_option maxHeartbeats 8000000 in
theorem l07Drawn_S (W : World) (sb : Nat) (a : Option Addr) (bs : List Int) (c t : Nat) (hS : SrcA W sb a bs c t) (ht : t ≤ 10) (hbl : bs.length ≤ 1000000) :
    Calls Tryz.prog 28 #[.pointer (some ⟨sb, 0, none⟩)] W fun e w' => ∃ (wi hi : Nat) (xs : List Pc) (A : Option Addr) (cc : Nat), e = .returned (.agg #[.int .i8 wi, .int .i8 hi, .slice A xs.length cc]) ∧ (2 ≤ wi ∧ wi ≤ 5 ∧ 1 ≤ hi ∧ hi ≤ 2) ∧ DrL wi hi hi 0 xs ∧ Fr sb 1 W w' ∧ w'.ownsRow (sb + 1) 76 5 (.slice A xs.length cc) xs.length (xs.flatMap Pc.enc) := by
  have hsl := hS.lt
  obtain ⟨W1, hW1⟩ : ∃ W1, W1 = W.alloc (.cells #[.int .i8 0, .int .i8 0, .slice none 0 0] 27) := ⟨_, rfl⟩
  have hB1 : Below W.heap.size W W1 := by rw [hW1]; exact (Below.refl _ _).alloc (Nat.le_refl _) _
  have HRb := hid (show BxD W1 W.heap.size 0 0 none 0 0 by rw [hW1]; exact ⟨by simp, by simp [go_sem], by simp [go_sem], by simp [go_sem], fun j => by simp [go_sem]⟩)
  have HP1 := hid (pick_S W1 sb a bs c t 4 (by omega) (hS.keep (hB1.mono (by omega))) (by omega) hbl)
  have HF1 := hid (Fr.of_below (X := sb) (n := 1) hB1)
  have hz1 := hB1.size
  have hz11 : W1.heap.size = W.heap.size + 1 := by rw [hW1]; simp
  clear hS hB1
  go_enter Tryz.func28, Tryz.ntmps28
  go_upto_region 1 with fail
  rw [← hW1]
  clear hW1
  go_wp2_with fail
  refine HP1.out.mono ?_
  rintro e w2 ⟨r1, t1, rfl, hr1, ht1, hS2, hF2⟩
  have HF2 := hid (HF1.out.trans hF2)
  have HRb2 := hid (HRb.out.fr hF2 (by omega))
  have HP2 := hid (pick_S w2 sb a bs c t1 2 (by omega) hS2 (by omega) hbl)
  have wa : IntKind.i64.wrap (2 + r1) = 2 + r1 := IntWalk.i64_in _ (by omega)
  have wb : IntKind.i8.wrap (2 + r1) = 2 + r1 := IntWalk.i8_in _ (by omega)
  have hz2 := hF2.size
  clear hS2 hF2
  go_wp2_with fail
  refine HP2.out.mono ?_
  rintro e w3 ⟨r2, t2, rfl, hr2, ht2, hS3, hF3⟩
  have HF3 := hid (HF2.out.trans hF3)
  have HRb3 := hid (HRb2.out.fr hF3 (by omega))
  have wc : IntKind.i64.wrap (1 + r2) = 1 + r2 := IntWalk.i64_in _ (by omega)
  have wd : IntKind.i8.wrap (1 + r2) = 1 + r2 := IntWalk.i8_in _ (by omega)
  have hz3 := hF3.size
  obtain ⟨wi, hwi⟩ : ∃ wi : Nat, 2 + r1 = wi := ⟨(2 + r1).toNat, by omega⟩
  obtain ⟨hi, hhi⟩ : ∃ hi : Nat, 1 + r2 = hi := ⟨(1 + r2).toNat, by omega⟩
  rw [hwi] at wa wb
  rw [hhi] at wc wd
  have hwr : 2 ≤ wi ∧ wi ≤ 5 := by omega
  have hhr : 1 ≤ hi ∧ hi ≤ 2 := by omega
  have ht12 : t2 ≤ 12 := by omega
  obtain ⟨W4, hW4⟩ : ∃ W4, W4 = w3.alloc (.cells #[.int .i8 (wi : Int), .int .i8 (hi : Int), .slice none 0 0] 27) := ⟨_, rfl⟩
  have hB4 : Below w3.heap.size w3 W4 := by rw [hW4]; exact (Below.refl _ _).alloc (Nat.le_refl _) _
  have HBx := hid (show BxD W4 w3.heap.size wi hi none 0 0 by rw [hW4]; exact ⟨by simp, by simp [go_sem], by simp [go_sem], by simp [go_sem], fun j => by simp [go_sem]⟩)
  have HS4 := hid (hS3.keep (hB4.mono (by omega)))
  have HF4 := hid (HF3.out.trans (Fr.of_below hB4))
  have HRb4 := hid (HRb3.out.keep (hB4.mono (by omega)))
  have hz4 := hB4.size
  have hz44 : W4.heap.size = w3.heap.size + 1 := by rw [hW4]; simp
  clear hS3 hF3 hB4
  go_wp2_with fail
  rw [← hW4]
  clear hW4
  obtain ⟨bx, hbx⟩ : ∃ bx, w3.heap.size = bx := ⟨_, rfl⟩
  rw [hbx] at HBx hz3 hz44
  rw [hbx]
  have hbxs : sb + 1 ≤ bx := by omega
  have hbxW : W.heap.size + 1 ≤ bx := by omega
  go_loopw [4] (fun yv wr => ∃ (y tt : Nat) (xs : List Pc) (A : Option Addr) (cc n : Nat), y ≤ hi ∧ yv = .int .i8 y ∧ n = xs.length ∧ DrL wi hi y 0 xs ∧ BxD wr bx wi hi A n cc ∧ wr.ownsRow (bx + 1) 76 5 (.slice A n cc) n (xs.flatMap Pc.enc) ∧ SrcA wr sb a bs c tt ∧ tt ≤ 12 + 100 * y ∧ Fr sb 1 W wr ∧ BxD wr W.heap.size 0 0 none 0 0 ∧ bx + 1 ≤ wr.heap.size) (fun yv _ => hi - (intOf yv).toNat)
  case atStart => exact ⟨0, t2, [], none, 0, 0, Nat.zero_le _, rfl, rfl, DrL.nil _ _, HBx.out, World.ownsRow_nil _ _ _ _, HS4.out, by omega, HF4.out, HRb4.out, by omega⟩
  case round =>
    obtain ⟨y, tt, xs, A, cc, n, hy, rfl, hn, hdr, hbd, own, hSr, htt, hFr, hRr, hzr⟩ := hrel
    have HN := hid hn
    have HDr := hid hdr
    have HBd := hid hbd
    have HOw := hid own
    have HSr := hid hSr
    have HFr := hid hFr
    have HRr := hid hRr
    have b0 := hbd.c0
    have b1 := hbd.c1
    have b2 := hbd.c2
    by_cases hlt : y < hi
    · have hd : decide ((y : Int) < (hi : Int)) = true := by rw [decide_eq_true_iff]; omega
      clear hn hdr hbd own hSr hFr hRr b2
      obtain ⟨V, hV⟩ : ∃ V, V = wr := ⟨_, rfl⟩
      subst hV
      go_wp2_with fail
      clear b0 b1
      go_loopw [5] (fun xv wr => ∃ (x tt : Nat) (xs : List Pc) (A : Option Addr) (cc n : Nat), x ≤ wi ∧ xv = .int .i8 x ∧ n = xs.length ∧ DrL wi hi y x xs ∧ BxD wr bx wi hi A n cc ∧ wr.ownsRow (bx + 1) 76 5 (.slice A n cc) n (xs.flatMap Pc.enc) ∧ SrcA wr sb a bs c tt ∧ tt ≤ 12 + 100 * y + 10 * x ∧ Fr sb 1 W wr ∧ BxD wr W.heap.size 0 0 none 0 0 ∧ bx + 1 ≤ wr.heap.size) (fun xv _ => wi - (intOf xv).toNat)
      case atStart => exact ⟨0, tt, xs, A, cc, n, Nat.zero_le _, rfl, HN.out, HDr.out, HBd.out, HOw.out, HSr.out, by omega, HFr.out, HRr.out, hzr⟩
      case round =>
        clear HN HDr HBd HOw HSr HFr HRr htt hzr
        obtain ⟨x, tt, xs, A, cc, n, hx, rfl, hn, hdr, hbd, own, hSr, htt, hFr, hRr, hzr⟩ := hrel
        have HN := hid hn
        have HDr := hid hdr
        have HBd := hid hbd
        have HOw := hid own
        have HFr := hid hFr
        have HRr := hid hRr
        have b0 := hbd.c0
        have wx : IntKind.i8.wrap ((x : Int) + 1) = (x : Int) + 1 := IntWalk.i8_in _ (by omega)
        by_cases hltx : x < wi
        · have hdx : decide ((x : Int) < (wi : Int)) = true := by rw [decide_eq_true_iff]; omega
          have htw : tt ≤ 1000 := by omega
          have HO6 := hid (one_S wr sb a bs c tt 6 (by omega) hSr (by omega) hbl)
          have hnl : n ≤ 40 := by
            have h1 := hdr.n
            have h2 : wi * y ≤ 5 * 2 := Nat.mul_le_mul (by omega) (by omega)
            omega
          clear hn hdr hbd own hSr hFr hRr
          obtain ⟨V, hV⟩ : ∃ V, V = wr := ⟨_, rfl⟩
          subst hV
          go_wp2_with fail
          refine HO6.out.mono ?_
          rintro e v1 ⟨r, t3, rfl, ht3, hS1, hF1⟩
          have HF1 := hid (HFr.out.trans hF1)
          have HB1 := hid (HBd.out.fr hF1 hbxs)
          have HO1 := hid (hF1.ownB (by omega) HOw.out)
          have HR1 := hid (HRr.out.fr hF1 (by omega))
          have hzv1 := hF1.size
          cases r with
          | true =>
            have HS1 := hid hS1
            clear hS1 hF1 b0
            go_wp2_with fail
            exact ⟨⟨x + 1, t3, xs, A, cc, n, by omega, by go_num, HN.out, HDr.out.skip, HB1.out, HO1.out, HS1.out, by omega, HF1.out, HR1.out, by omega⟩, by simp [intOf]; omega⟩
          | false =>
            have HPd := hid (pieceDrawn_S v1 sb a bs c t3 x y hS1 (by omega) hbl)
            clear hS1 hF1 b0
            go_wp2_with fail
            refine HPd.out.mono ?_
            rintro e v2 ⟨p, t4, rfl, ⟨hpx, hpy, hpk⟩, ht4, hS2, hF2⟩
            obtain ⟨px, py, pk, pt, pd⟩ := p
            dsimp only at hpx hpy hpk
            subst hpx hpy
            have hB3 : ∀ o, Below v2.heap.size v2 (v2.alloc o) := fun o => (Below.refl _ _).alloc (Nat.le_refl _) o
            have hzv2 := hF2.size
            obtain ⟨V3, hV3⟩ : ∃ V3, V3 = v2.alloc (.cells #[.int .i8 (x : Int), .int .i8 (y : Int), .int .i8 pk, .int .i8 pt, .int .i8 pd] 76) := ⟨_, rfl⟩
            have hB3' : Below v2.heap.size v2 V3 := by rw [hV3]; exact hB3 _
            have q0 : V3.cell? ⟨v2.heap.size, 0, none⟩ = some (.int .i8 (x : Int)) := by rw [hV3]; simp [go_sem]
            have q1 : V3.cell? ⟨v2.heap.size, 1, none⟩ = some (.int .i8 (y : Int)) := by rw [hV3]; simp [go_sem]
            have q2 : V3.cell? ⟨v2.heap.size, 2, none⟩ = some (.int .i8 pk) := by rw [hV3]; simp [go_sem]
            have q3 : V3.cell? ⟨v2.heap.size, 3, none⟩ = some (.int .i8 pt) := by rw [hV3]; simp [go_sem]
            have q4 : V3.cell? ⟨v2.heap.size, 4, none⟩ = some (.int .i8 pd) := by rw [hV3]; simp [go_sem]
            have qz : ∀ j, V3.frozen? ⟨v2.heap.size, j, none⟩ = false := fun j => by rw [hV3]; simp [go_sem]
            have hq3 : V3.heap.size = v2.heap.size + 1 := by rw [hV3]; simp
            have HO2 := hid (one_S V3 sb a bs c t4 2 (by omega) (hS2.keep (hB3'.mono (by have := hS2.lt; omega))) (by omega) hbl)
            have HF3 := hid ((HF1.out.trans hF2).trans (Fr.of_below hB3'))
            have HB3 := hid ((HB1.out.fr hF2 hbxs).keep (hB3'.mono (by omega)))
            have HO3 := hid (own_step (hF2.ownB (by omega) HO1.out) hB3')
            have HR3 := hid ((HR1.out.fr hF2 (by omega)).keep (hB3'.mono (by omega)))
            have hol : ∀ k, (Value.slice A n cc).ownBlock = some k → k ≠ v2.heap.size := fun k hk => by have := ((hF2.ownB (by omega) HO1.out).lt k hk).2; omega
            have HOL := hid hol
            obtain ⟨qb, hqb⟩ : ∃ qb, v2.heap.size = qb := ⟨_, rfl⟩
            rw [hqb] at q0 q1 q2 q3 q4 hq3
            have HQB := hid hqb
            have hqbb : bx + 1 ≤ qb := by omega
            clear hS2 hF2 hB3 hB3' hol
            go_wp2_with fail
            rw [← hV3]
            clear hV3
            (try rw [hqb])
            refine HO2.out.mono ?_
            rintro e v4 ⟨r2, t5, rfl, ht5, hS4, hF4⟩
            have HF4 := hid (HF3.out.trans hF4)
            have hbd4 := HB3.out.fr hF4 hbxs
            have HB4 := hid hbd4
            have HO4 := hid (hF4.ownB (by omega) HO3.out)
            have HR4 := hid (HR3.out.fr hF4 (by omega))
            have HS4 := hid hS4
            have y0 := hF4.cellD (.inr (by show sb + 1 ≤ qb; omega)) q0
            have y1 := hF4.cellD (.inr (by show sb + 1 ≤ qb; omega)) q1
            have y2 := hF4.cellD (.inr (by show sb + 1 ≤ qb; omega)) q2
            have y3 := hF4.cellD (.inr (by show sb + 1 ≤ qb; omega)) q3
            have y4 := hF4.cellD (.inr (by show sb + 1 ≤ qb; omega)) q4
            have z2 : v4.frozen? ⟨qb, 2, none⟩ = false := hF4.frzD (by omega) (.inr (by omega)) (by rw [← hqb]; exact qz 2)
            have z3 : v4.frozen? ⟨qb, 3, none⟩ = false := hF4.frzD (by omega) (.inr (by omega)) (by rw [← hqb]; exact qz 3)
            have k2 := hbd4.c2
            have hbq : bx ≠ qb := by omega
            have hz4' := hF4.size
            clear hS4 hF4 hbd4 q0 q1 q2 q3 q4 qz hqb
            cases r2 with
            | false =>
              have hoV : v4.ownsRow (bx + 1) 76 5 (.slice A n cc) n (xs.flatMap Pc.enc) := HO4.out
              have HOV := hid hoV
              have HBV := hid (show Below (sb + 1) v4 v4 from Below.refl _ _)
              have HBV2 := hid (show Below (bx + 1) v4 v4 from Below.refl _ _)
              clear hoV
              go_wp2_with (at_builtin; refine app_one (w := v4) 25 76 (.agg Pc.z.enc.toArray) 5 5 Tryz.underlying25 (by kernel_rfl) rfl (by decide) (bx + 1) _ n _ HOV.out ?d1 (by decide) ?d2 [.int .i8 (x : Int), .int .i8 (y : Int), .int .i8 pk, .int .i8 pt, .int .i8 pd] _ _ rfl rfl rfl _ rfl ?d3 rfl (by intro u hu; simp at hu; rcases hu with rfl | rfl | rfl | rfl | rfl <;> rfl) ?_)
              case d1 => omega
              case d2 => have := HBV2.out.size; omega
              case d3 => first | rfl | (simp only [World.size_setCell])
              intro A5 c5 w5 own5 hb5 hg5 hat5
              have HB5 := hid (HBV2.out.trans hb5)
              have HO5 := hid own5
              have k5 : w5.cell? ⟨bx, 2, none⟩ = some (.slice A n cc) := (HB5.out.cell (p := ⟨bx, 2, none⟩) (by show bx < _; omega)).trans k2
              have z5 : w5.frozen? ⟨bx, 2, none⟩ = false := (HB5.out.frozen (p := ⟨bx, 2, none⟩) (by show bx < _; omega)).trans (HB4.out.fz 2)
              have hz5 := HB5.out.size
              clear own5 hb5 hg5 hat5 y0 y1 y2 y3 y4 z2 z3 k2
              go_wp2_with fail
              have hbl5 : Below (bx + 1) v4 w5 := HB5.out
              have hst : Below (sb + 1) w5 (w5.setCell ⟨bx, 2, none⟩ (.slice A5 (n + 1) c5)) := (Below.refl _ _).setCell (by omega) _
              have hst2 : Below (W.heap.size + 1) w5 (w5.setCell ⟨bx, 2, none⟩ (.slice A5 (n + 1) c5)) := (Below.refl _ _).setCell (by omega) _
              refine ⟨⟨x + 1, t5, xs ++ [⟨(x : Int), (y : Int), pk, pt, pd⟩], A5, c5, n + 1, by omega, by go_num, by rw [List.length_append, List.length_singleton, HN.out], HDr.out.add rfl rfl hltx hlt ⟨hpk.1, hpk.2.1, hpk.2.2⟩, (HB4.out.keep hbl5).store, ?_, (HS4.out.keep (hbl5.mono (by omega))).keep hst, by omega, (HF4.out.low hbl5 (by omega)).low hst2 (by omega), (HR4.out.keep (hbl5.mono (by omega))).keep hst2, by rw [World.size_setCell]; omega⟩, by simp [intOf]; omega⟩
              rw [flat_Pc]
              exact own_setD HO5.out (fun k hk => by have := (HO5.out.lt k hk).1; omega) _
            | true =>
              have hoV : ((v4.setCell ⟨qb, 2, none⟩ (.int .i8 0)).setCell ⟨qb, 3, none⟩ (.int .i8 0)).ownsRow (bx + 1) 76 5 (.slice A n cc) n (xs.flatMap Pc.enc) := own_setD (own_setD HO4.out (fun k hk => by have := HOL.out k hk; have := HQB.out; omega) _) (fun k hk => by have := HOL.out k hk; have := HQB.out; omega) _
              have HOV := hid hoV
              have HBV := hid (show Below (sb + 1) v4 ((v4.setCell ⟨qb, 2, none⟩ (.int .i8 0)).setCell ⟨qb, 3, none⟩ (.int .i8 0)) from ((Below.refl _ _).setCell (by show sb + 1 ≤ qb; omega) _).setCell (by show sb + 1 ≤ qb; omega) _)
              have HBV2 := hid (show Below (bx + 1) v4 ((v4.setCell ⟨qb, 2, none⟩ (.int .i8 0)).setCell ⟨qb, 3, none⟩ (.int .i8 0)) from ((Below.refl _ _).setCell (by show bx + 1 ≤ qb; omega) _).setCell (by show bx + 1 ≤ qb; omega) _)
              clear hoV
              go_wp2_with (at_builtin; refine app_one (w := ((v4.setCell ⟨qb, 2, none⟩ (.int .i8 0)).setCell ⟨qb, 3, none⟩ (.int .i8 0))) 25 76 (.agg Pc.z.enc.toArray) 5 5 Tryz.underlying25 (by kernel_rfl) rfl (by decide) (bx + 1) _ n _ HOV.out ?d1 (by decide) ?d2 [.int .i8 (x : Int), .int .i8 (y : Int), .int .i8 0, .int .i8 0, .int .i8 pd] _ _ rfl rfl rfl _ rfl ?d3 rfl (by intro u hu; simp at hu; rcases hu with rfl | rfl | rfl | rfl | rfl <;> rfl) ?_)
              case d1 => omega
              case d2 => have := HBV2.out.size; omega
              case d3 => first | rfl | (simp only [World.size_setCell])
              intro A5 c5 w5 own5 hb5 hg5 hat5
              have HB5 := hid (HBV2.out.trans hb5)
              have HO5 := hid own5
              have k5 : w5.cell? ⟨bx, 2, none⟩ = some (.slice A n cc) := (HB5.out.cell (p := ⟨bx, 2, none⟩) (by show bx < _; omega)).trans k2
              have z5 : w5.frozen? ⟨bx, 2, none⟩ = false := (HB5.out.frozen (p := ⟨bx, 2, none⟩) (by show bx < _; omega)).trans (HB4.out.fz 2)
              have hz5 := HB5.out.size
              clear own5 hb5 hg5 hat5 y0 y1 y2 y3 y4 z2 z3 k2
              go_wp2_with fail
              have hbl5 : Below (bx + 1) v4 w5 := HB5.out
              have hst : Below (sb + 1) w5 (w5.setCell ⟨bx, 2, none⟩ (.slice A5 (n + 1) c5)) := (Below.refl _ _).setCell (by omega) _
              have hst2 : Below (W.heap.size + 1) w5 (w5.setCell ⟨bx, 2, none⟩ (.slice A5 (n + 1) c5)) := (Below.refl _ _).setCell (by omega) _
              refine ⟨⟨x + 1, t5, xs ++ [⟨(x : Int), (y : Int), 0, 0, pd⟩], A5, c5, n + 1, by omega, by go_num, by rw [List.length_append, List.length_singleton, HN.out], HDr.out.add rfl rfl hltx hlt ⟨(by dsimp only; omega), (by dsimp only; omega), hpk.2.2⟩, (HB4.out.keep hbl5).store, ?_, (HS4.out.keep (hbl5.mono (by omega))).keep hst, by omega, (HF4.out.low hbl5 (by omega)).low hst2 (by omega), (HR4.out.keep (hbl5.mono (by omega))).keep hst2, by rw [World.size_setCell]; omega⟩, by simp [intOf]; omega⟩
              rw [flat_Pc]
              exact own_setD HO5.out (fun k hk => by have := (HO5.out.lt k hk).1; omega) _
        · obtain rfl : x = wi := by omega
          have hdx : decide ((x : Int) < (x : Int)) = false := by rw [decide_eq_false_iff_not]; omega
          have wy : IntKind.i8.wrap ((y : Int) + 1) = (y : Int) + 1 := IntWalk.i8_in _ (by omega)
          have HSr := hid hSr
          clear hn hdr hbd own hSr hFr hRr
          go_wp2_with fail
          exact ⟨⟨y + 1, tt, xs, A, cc, n, by omega, by go_num, HN.out, HDr.out.row, HBd.out, HOw.out, HSr.out, by omega, HFr.out, HRr.out, hzr⟩, by simp [intOf]; omega⟩
    · obtain rfl : y = hi := by omega
      have hd : decide ((y : Int) < (y : Int)) = false := by rw [decide_eq_false_iff_not]; omega
      obtain ⟨r9, r0, r1', r2', rz⟩ := hRr
      have z0 := rz 0
      have z1 := rz 1
      have z2 := rz 2
      clear hn hdr hbd own hSr hFr
      go_wp2_with fail
      refine bodyPost_ret (v := .agg #[.int .i8 (wi : Int), .int .i8 (y : Int), .slice A n cc]) (by simp [results, Tryz.results28, go_sem, r0, r1', r2', r9]) rfl ⟨wi, y, xs, A, cc, by rw [HN.out], ⟨by omega, by omega, by omega, by omega⟩, HDr.out, ?_, ?_⟩
      · exact ((HFr.out.low ((Below.refl W.heap.size _).setCell (Nat.le_refl _) _) (Nat.le_refl _)).low ((Below.refl W.heap.size _).setCell (Nat.le_refl _) _) (Nat.le_refl _)).low ((Below.refl W.heap.size _).setCell (Nat.le_refl _) _) (Nat.le_refl _)
      · rw [← HN.out]
        repeat (refine own_setD ?_ (fun k hk => by have := (HOw.out.lt k hk).1; omega) _)
        exact own_low HOw.out (by omega)
/-- Bytes that are read. -/
structure BytA (w : World) (a : Option Addr) (bs : List Int) : Prop where
  rng : ∀ x ∈ bs, 0 ≤ x ∧ x ≤ 255
  code : ∀ i x, bs[i]? = some x → ∃ cb co, a = some ⟨cb, co, none⟩ ∧ w.cell? ⟨cb, co + i, none⟩ = some (.int .u8 x)
theorem BytA.keep {w w' : World} {a : Option Addr} {bs : List Int} (h : BytA w a bs) (hb : Below w.heap.size w w') : BytA w' a bs :=
  ⟨h.rng, fun i x hx => by
    obtain ⟨cb, co, e, hc⟩ := h.code i x hx
    exact ⟨cb, co, e, cell_on hb hc⟩⟩
theorem BxD.frL {w w' : World} {bx sb : Nat} {wi hi : Int} {A : Option Addr} {n c : Nat} (h : BxD w bx wi hi A n c) (f : Fr sb 1 w w') (hb : bx < sb) : BxD w' bx wi hi A n c :=
  ⟨Nat.lt_of_lt_of_le h.lt f.size, f.cellD (.inl hb) h.c0, f.cellD (.inl hb) h.c1, f.cellD (.inl hb) h.c2, fun j => f.frzD h.lt (.inl hb) (h.fz j)⟩
theorem own_cap {w : World} {base : Nat} {e : TypeId} {n k : Nat} {a : Option Addr} {c : Nat} {l : List Value} (h : w.ownsRow base e n (.slice a k c) k l) : (a = none → c = 0) ∧ k ≤ c ∧ c ≤ 9223372036854775807 := by
  rcases h.2 with ⟨h1, h0⟩ | ⟨g, cap', cur, h1, _, _, h3, h4, _⟩
  · injection h1 with e1 e2 e3
    subst e1 e2 e3
    exact ⟨fun _ => rfl, Nat.le_refl _, by omega⟩
  · injection h1 with e1 e2 e3
    subst e1 e3
    have : maxLen = 9223372036854775807 ∨ maxLen ≤ 9223372036854775807 := .inr (by decide)
    exact ⟨fun h => (by cases h), h3, by omega⟩
theorem own_addr {w : World} {base : Nat} {e : TypeId} {n k : Nat} {a : Option Addr} {c : Nat} {l : List Value} (h : w.ownsRow base e n (.slice a k c) k l) (hk : 0 < k) : ∃ g, a = some ⟨g, 0, none⟩ ∧ base ≤ g := by
  rcases h.2 with ⟨h1, h0⟩ | ⟨g, cap', cur, h1, hb, _⟩
  · omega
  · injection h1 with e1 e2 e3
    exact ⟨g, e1, hb⟩
theorem Fr.downL {X sb : Nat} {Wb W W' : World} (h : Below X Wb W) (f : Fr sb 1 W W') (hX : X ≤ W.heap.size) (hs : X ≤ sb) : Below X Wb W' :=
  h.trans ⟨f.os, f.tape, f.output, f.size, fun k hk => f.block k (Nat.lt_of_lt_of_le hk hX) (.inl (Nat.lt_of_lt_of_le hk hs))⟩
/-- Numbers in some order. -/
structure OrdN (gs : List Int) (i : Nat) : Prop where
  len : gs.length = i
  nd : gs.Nodup
  rng : ∀ g ∈ gs, 0 ≤ g ∧ g < i
theorem OrdN.nil : OrdN [] 0 := ⟨rfl, List.nodup_nil, fun g hg => absurd hg List.not_mem_nil⟩
theorem OrdN.step {gs : List Int} {i : Nat} (h : OrdN gs i) {k : Nat} (hk : k ≤ i) {x : Int} (hx : (gs ++ [(i : Int)])[k]? = some x) : OrdN (((gs ++ [(i : Int)]).set k i).set i x) (i + 1) := by
  have hl : (gs ++ [(i : Int)]).length = i + 1 := by rw [List.length_append, h.len]; rfl
  have hki : k < (gs ++ [(i : Int)]).length := by omega
  have hii : i < (gs ++ [(i : Int)]).length := by omega
  have e1 : (gs ++ [(i : Int)])[i] = (i : Int) := by
    rw [List.getElem_append_right (by rw [h.len]; omega)]
    simp
  have e2 : (gs ++ [(i : Int)])[k] = x := by
    rw [List.getElem?_eq_getElem hki] at hx
    injection hx
  have hp : (((gs ++ [(i : Int)]).set k i).set i x).Perm (gs ++ [(i : Int)]) := by
    have := @List.set_set_perm _ (gs ++ [(i : Int)]) k i hki hii
    rw [e1, e2] at this
    exact this
  refine ⟨by rw [hp.length_eq, hl], hp.nodup_iff.2 ?_, fun g hg => ?_⟩
  · rw [List.nodup_append]
    refine ⟨h.nd, by simp, fun a ha b hb => ?_⟩
    rw [List.mem_singleton] at hb
    have := (h.rng a ha).2
    omega
  · rcases List.mem_append.1 (hp.mem_iff.1 hg) with h1 | h1
    · have := h.rng g h1
      omega
    · rw [List.mem_singleton] at h1
      omega
set_option maxRecDepth 100000 in
set_option maxHeartbeats 4000000 in
theorem small_S (W : World) (a : Option Addr) (bs : List Int) (c : Nat) (hA : BytA W a bs) (hbl : bs.length ≤ 1000000) :
    Calls Tryz.prog 6 #[.slice a bs.length c] W fun e w' => ∃ (wi hi : Nat) (xs : List Pc) (A : Option Addr) (cc : Nat), e = .returned (.agg #[.int .i8 wi, .int .i8 hi, .slice A xs.length cc]) ∧ (2 ≤ wi ∧ wi ≤ 5 ∧ 1 ≤ hi ∧ hi ≤ 2) ∧ DrL wi hi hi 0 xs ∧ Below W.heap.size W w' ∧ w'.ownsRow W.heap.size 76 5 (.slice A xs.length cc) xs.length (xs.flatMap Pc.enc) := by
  obtain ⟨W1, hW1⟩ : ∃ W1, W1 = W.alloc (.cells #[.int .i8 0, .int .i8 0, .slice none 0 0] 27) := ⟨_, rfl⟩
  have hB1 : Below W.heap.size W W1 := by rw [hW1]; exact (Below.refl _ _).alloc (Nat.le_refl _) _
  have HRb := hid (show BxD W1 W.heap.size 0 0 none 0 0 by rw [hW1]; exact ⟨by simp, by simp [go_sem], by simp [go_sem], by simp [go_sem], fun j => by simp [go_sem]⟩)
  have hz1 : W.heap.size + 1 ≤ W1.heap.size := by rw [hW1]; simp
  have hA1 := hA.keep hB1
  have HB1 := hid hB1
  obtain ⟨W2, hW2⟩ : ∃ W2, W2 = W1.alloc (.cells #[.slice a bs.length c, .int .i64 0, .int .u64 0] 80) := ⟨_, rfl⟩
  have hB2 : Below W1.heap.size W1 W2 := by rw [hW2]; exact (Below.refl _ _).alloc (Nat.le_refl _) _
  have hS2 : SrcA W2 W1.heap.size a bs c 0 := by rw [hW2]; exact src_new W1 a bs c _ hA1.rng hA1.code
  have HR2 := hid (HRb.out.keep (hB2.mono (by omega)))
  have HL := hid (l07Drawn_S W2 W1.heap.size a bs c 0 hS2 (by omega) hbl)
  have HB2 := hid (below_of hB1 hB1.size hB2)
  have hz2 := hB2.size
  clear hB1 hA hA1 hB2 hS2
  go_enter Tryz.func6, Tryz.ntmps6
  go_upto_region 1 with fail
  rw [← hW1]
  clear hW1
  go_wp2_with fail
  refine (srcFrom_S a bs.length c W1).mono ?_
  rintro e w2 ⟨rfl, rfl⟩
  rw [← hW2]
  clear hW2
  go_wp2_with fail
  refine HL.out.mono ?_
  rintro e w3 ⟨wi, hi, xs, A, cc, rfl, hr, hdr, hF, own⟩
  obtain ⟨r9, r0, r1', r2', rz⟩ := HR2.out.frL hF (by omega)
  have z0 := rz 0
  have z1 := rz 1
  have z2 := rz 2
  have HD := hid hdr
  have HB3 := hid (Fr.downL HB2.out hF (by omega) (by omega))
  have HO := hid own
  clear rz hF own hdr
  go_wp2_with fail
  refine bodyPost_ret (v := .agg #[.int .i8 (wi : Int), .int .i8 (hi : Int), .slice A xs.length cc]) (by simp [results, Tryz.results6, go_sem, r0, r1', r2', r9]) rfl ⟨wi, hi, xs, A, cc, rfl, hr, HD.out, ?_, ?_⟩
  · exact (((HB3.out).setCell (Nat.le_refl _) _).setCell (Nat.le_refl _) _).setCell (Nat.le_refl _) _
  · have hn : ∀ k, (Value.slice A xs.length cc).ownBlock = some k → k ≠ W.heap.size := fun k hk => by have := (HO.out.lt k hk).1; omega
    exact own_setD (own_setD (own_setD (own_low HO.out (by omega)) hn _) hn _) hn _
set_option maxRecDepth 100000 in
set_option maxHeartbeats 8000000 in
theorem orderD_S (W : World) (a : Option Addr) (bs : List Int) (c : Nat) (hA : BytA W a bs) (hbl : bs.length ≤ 1000000) (wi hi : Int) (A0 : Option Addr) (m c0 : Nat) (hm : m ≤ 40) :
    Calls Tryz.prog 7 #[.slice a bs.length c, .agg #[.int .i8 wi, .int .i8 hi, .slice A0 m c0]] W fun e w' => ∃ (gs : List Int) (A : Option Addr) (cc : Nat), e = .returned (.slice A gs.length cc) ∧ OrdN gs m ∧ Below W.heap.size W w' ∧ w'.ownsRow W.heap.size 2 1 (.slice A gs.length cc) gs.length (gs.flatMap en1) := by
  obtain ⟨W1, hW1⟩ : ∃ W1, W1 = W.alloc (.cells #[.int .i8 wi, .int .i8 hi, .slice A0 m c0] 27) := ⟨_, rfl⟩
  have hB1 : Below W.heap.size W W1 := by rw [hW1]; exact (Below.refl _ _).alloc (Nat.le_refl _) _
  have k1 : W1.cell? ⟨W.heap.size, 2, none⟩ = some (.slice A0 m c0) := by rw [hW1]; simp [go_sem]
  have hz1 : W.heap.size + 1 ≤ W1.heap.size := by rw [hW1]; simp
  have hA1 := hA.keep hB1
  obtain ⟨W2, hW2⟩ : ∃ W2, W2 = W1.alloc (.cells #[.slice a bs.length c, .int .i64 0, .int .u64 0] 80) := ⟨_, rfl⟩
  have hB2 : Below W1.heap.size W1 W2 := by rw [hW2]; exact (Below.refl _ _).alloc (Nat.le_refl _) _
  have hS2 : SrcA W2 W1.heap.size a bs c 0 := by rw [hW2]; exact src_new W1 a bs c _ hA1.rng hA1.code
  have k2 : W2.cell? ⟨W.heap.size, 2, none⟩ = some (.slice A0 m c0) := cell_on hB2 k1
  have hz2 : W1.heap.size + 1 ≤ W2.heap.size := by rw [hW2]; simp
  have hz3 : W2.heap.size ≤ W1.heap.size + 1 := by rw [hW2]; simp
  have HB2 := hid (below_of hB1 hB1.size hB2)
  have HS2 := hid hS2
  have HK2 := hid k2
  clear hB1 hA hA1 hB2 hS2 k1 k2
  go_enter Tryz.func7, Tryz.ntmps7
  go_upto_region 1 with fail
  rw [← hW1]
  clear hW1
  go_wp2_with fail
  refine (srcFrom_S a bs.length c W1).mono ?_
  rintro e w2 ⟨rfl, rfl⟩
  rw [← hW2]
  clear hW2
  obtain ⟨sb, hsb⟩ : ∃ sb, W1.heap.size = sb := ⟨_, rfl⟩
  rw [hsb] at HS2 hz2 hz1 hz3
  rw [hsb]
  clear hsb
  go_wp2_with fail
  go_loopw [6, 7] (fun o iv wr => ∃ (i tt : Nat) (gs : List Int) (A : Option Addr) (cc : Nat), i ≤ m ∧ iv = .int .i64 i ∧ o = .slice A i cc ∧ OrdN gs i ∧ wr.ownsRow (sb + 1) 2 1 (.slice A i cc) i (gs.flatMap en1) ∧ SrcA wr sb a bs c tt ∧ tt ≤ i ∧ Fr sb 1 W2 wr ∧ wr.cell? ⟨W.heap.size, 2, none⟩ = some (.slice A0 m c0)) (fun _ iv _ => m - (intOf iv).toNat)
  case atStart => exact ⟨0, 0, [], _, _, Nat.zero_le _, rfl, rfl, OrdN.nil, by simpa using World.ownsRow_lit W2 #[] 0 (show sb + 1 ≤ W2.heap.size from hz2) (by simp [maxLen]) (by simp), HS2.out.keep ((Below.refl _ _).alloc (by omega) _), Nat.le_refl _, Fr.of_below ((Below.refl _ _).alloc (Nat.le_refl _) _), cell_on ((Below.refl W2.heap.size W2).alloc (Nat.le_refl _) _) HK2.out⟩
  case round =>
    obtain ⟨i, tt, gs, A, cc, hi', rfl, rfl, hord, own, hS, htt, hF, b2⟩ := hrel
    have HOrd := hid hord
    have HOw := hid own
    have HF := hid hF
    by_cases hlt : i < m
    · have hd : decide ((i : Int) < (m : Int)) = true := by rw [decide_eq_true_iff]; omega
      have hwi : IntKind.i64.wrap ((i : Int) + 1) = (i : Int) + 1 := IntWalk.i64_in _ (by omega)
      have HP := hid (pick_S wr sb a bs c tt ((i : Int) + 1) (by omega) hS (by omega) hbl)
      have HK := hid b2
      clear hord own hS hF
      go_wp2_with fail
      refine HP.out.mono ?_
      rintro e v1 ⟨r, t1, rfl, hr, ht1, hS1, hF1⟩
      obtain ⟨k, rfl⟩ : ∃ k : Nat, r = (k : Int) := ⟨r.toNat, by omega⟩
      have hki : k ≤ i := by omega
      have HS1 := hid hS1
      have HF1 := hid (HF.out.trans hF1)
      have HO1 := hid (hF1.ownB (by omega) HOw.out)
      have HK1 := hid (hF1.cellD (.inl (by show W.heap.size < sb; omega)) HK.out)
      have hz4 := HF1.out.size
      have hzv : sb + 1 ≤ v1.heap.size := by omega
      clear hS1 hF1 b2 hr
      go_wp2_with (at_builtin; refine app_one (w := v1) 29 2 (.int .i64 0) 1 8 Tryz.underlying29 (by kernel_rfl) rfl (by decide) (sb + 1) _ i _ HO1.out ?d1 (by decide) hzv [.int .i64 (i : Int)] _ _ rfl rfl rfl _ rfl ?d3 rfl (by intro u hu; simp at hu; rcases hu with rfl; rfl) ?_)
      case d1 => omega
      case d3 => rfl
      intro A5 c5 w5 own5 hb5 hg5 hat5
      have e5 : gs.flatMap en1 ++ [.int .i64 (i : Int)] = (gs ++ [(i : Int)]).flatMap en1 := by rw [List.flatMap_append]; rfl
      rw [e5] at own5
      obtain ⟨g, rfl, hgb⟩ := own_addr own5 (by omega)
      have hgl : (gs ++ [(i : Int)]).length = i + 1 := by rw [List.length_append, HOrd.out.len]; rfl
      have ex : (gs ++ [(i : Int)])[k]? = some ((gs ++ [(i : Int)])[k]'(by omega)) := List.getElem?_eq_getElem _
      generalize (gs ++ [(i : Int)])[k]'(by omega) = x at ex
      have ei : (gs ++ [(i : Int)])[i]? = some (i : Int) := by
        rw [List.getElem?_append_right (by rw [HOrd.out.len]; omega), HOrd.out.len, Nat.sub_self]
        rfl
      have hxi : k = i → x = (i : Int) := fun h => by subst h; rw [ei] at ex; injection ex with h; exact h.symm
      have hst := HOrd.out.step hki ex
      have HST := hid hst
      have hck : w5.cell? ⟨g, k, none⟩ = some (.int .i64 x) := (own5.cellAt k (by omega)).trans (by rw [en1_flat, List.getElem?_map, ex]; rfl)
      have hci : w5.cell? ⟨g, i, none⟩ = some (.int .i64 (i : Int)) := (own5.cellAt i (by omega)).trans (by rw [en1_flat, List.getElem?_map, ei]; rfl)
      have hfk : w5.frozen? ⟨g, k, none⟩ = false := own5.frozenAt _
      have hfi : w5.frozen? ⟨g, i, none⟩ = false := own5.frozenAt _
      have st2 := ((own5.stored k (.int .i64 (i : Int))).1.stored i (.int .i64 x)).1
      have hfl : (((gs ++ [(i : Int)]).flatMap en1).set k (.int .i64 (i : Int))).set i (.int .i64 x) = (((gs ++ [(i : Int)]).set k i).set i x).flatMap en1 := by
        rw [en1_flat, en1_flat, List.map_set, List.map_set]
      rw [hfl] at st2
      have HO5 := hid st2
      have HB5 := hid hb5
      have hki1 : (k : Int) < (i : Int) + 1 := by omega
      have hii1 : (i : Int) < (i : Int) + 1 := by omega
      have hkn : k < i + 1 := by omega
      have hin : i < i + 1 := by omega
      have hcells : (w5.setCell ⟨g, k, none⟩ (.int .i64 (i : Int))).cell? ⟨g, i, none⟩ = some (.int .i64 (i : Int)) := by
        by_cases h : k = i
        · subst h
          exact World.cell?_setCell_same _ _ _ (by rw [hck])
        · rw [World.cell?_setCell_other _ _ _ _ (by first | (simp; done) | (simp; omega))]
          exact hci
      have HKx := hid (show Below (sb + 1) v1 ((w5.setCell ⟨g, k, none⟩ (.int .i64 (i : Int))).setCell ⟨g, i, none⟩ (.int .i64 x)) from (hb5.setCell hgb _).setCell hgb _)
      clear own5 hb5 hg5 hat5 e5 ex ei hst st2 hfl hgl
      rcases Nat.lt_or_ge k i with hlt2 | hge
      · clear hcells hxi
        go_wp2_with fail
        exact ⟨⟨i + 1, t1, _, _, c5, by omega, by go_num, by go_num, HST.out, HO5.out, HS1.out.keep HKx.out, by omega, HF1.out.low HKx.out (by omega), (HKx.out.cell (p := ⟨W.heap.size, 2, none⟩) (by show W.heap.size < _; omega)).trans HK1.out⟩, by simp [intOf]; omega⟩
      · have hki2 : k = i := by omega
        have hxi := hxi hki2
        subst hki2 hxi
        clear hcells
        go_wp2_with fail
        exact ⟨⟨k + 1, t1, _, _, c5, by omega, by go_num, by go_num, HST.out, HO5.out, HS1.out.keep HKx.out, by omega, HF1.out.low HKx.out (by omega), (HKx.out.cell (p := ⟨W.heap.size, 2, none⟩) (by show W.heap.size < _; omega)).trans HK1.out⟩, by simp [intOf]; omega⟩
    · obtain rfl : i = m := by omega
      have hd : decide ((i : Int) < (i : Int)) = false := by rw [decide_eq_false_iff_not]; omega
      clear hord own hS hF
      go_wp2_with fail
      refine bodyPost_ret (v := .slice A i cc) (by simp [results, Tryz.results7, go_sem]) rfl ?_
      refine ⟨gs, A, cc, by rw [HOrd.out.len], HOrd.out, Fr.downL HB2.out HF.out (by omega) (by omega), ?_⟩
      · rw [HOrd.out.len]
        exact own_low HOw.out (by omega)
structure Nb where
  n : Int
  deriving DecidableEq, Repr
def Nb.z : Nb := ⟨0⟩
def Nb.enc (p : Nb) : List Value := [.int .u8 p.n]
structure Nb.Ok (p : Nb) : Prop where
  n0 : 0 ≤ p.n
  n1 : p.n ≤ 255
def Nb.ks : List Sc := [.int .u8]
theorem Nb.enc_length (p : Nb) : p.enc.length = 1 := rfl
theorem Nb.of (cs : List Value) (hl : cs.length = Nb.ks.length) (h : OkL Nb.ks cs) : ∃ p : Nb, cs = p.enc ∧ p.Ok := by
  match cs, hl with
  | [c0], _ =>
    obtain ⟨v0, e0, b0, rfl, w0⟩ := h 0 _ rfl
    simp at e0
    have r0 := bounds_u8 w0
    subst e0
    exact ⟨⟨b0⟩, rfl, ⟨r0.1, r0.2⟩⟩
theorem pw_take {xs : List Pc} (h : xs.Pairwise apartP) {k : Nat} {p : Pc} (hp : xs[k]? = some p) : (xs.take k).any (atC p.x p.y) = false := by
  rw [List.any_eq_false]
  intro q hq
  obtain ⟨j, hj, e⟩ := List.mem_take_iff_getElem.1 hq
  obtain ⟨hk, e2⟩ := List.getElem?_eq_some_iff.1 hp
  have h1 := List.pairwise_iff_getElem.1 h j k (by omega) hk (by omega)
  rw [e, e2] at h1
  unfold apartP at h1
  unfold atC
  simp only [Bool.and_eq_true, decide_eq_true_eq]
  exact h1
theorem draw_zero {wi hi : Int} {xs : List Pc} (h : DrawOk wi hi xs) (hn : xs.length ≤ 40) : builtG wi hi xs = 0 := by
  have hb : bdOk wi hi xs = true := by
    refine bdOk_true (inB_iff.2 h.w) (inB_iff.2 h.h) (by omega) (fun j hj => ?_)
    have e : xs[j]? = some xs[j] := List.getElem?_eq_getElem hj
    unfold okAt
    rw [e]
    dsimp only
    have hp := h.pc xs[j] (List.getElem_mem hj)
    have h1 := h.w
    have h2 := h.h
    rw [pw_take h.pw e]
    have c1 : cellIn xs[j].x xs[j].y wi hi = true := by
      unfold cellIn
      rw [Bool.and_eq_true, inB_iff, inB_iff]
      omega
    have c2 : pcOk xs[j] = true := by
      unfold pcOk cellIn
      simp only [Bool.and_eq_true, inB_iff]
      omega
    rw [c1, c2]
    rfl
  unfold builtG
  rw [if_pos hb, if_neg (by omega)]
theorem draw_n {wi hi : Nat} {xs : List Pc} (h : DrL wi hi hi 0 xs) (hr : 2 ≤ wi ∧ wi ≤ 5 ∧ 1 ≤ hi ∧ hi ≤ 2) : xs.length ≤ 10 := by
  have h1 := h.n
  have h2 : wi * hi ≤ 5 * 2 := Nat.mul_le_mul (by omega) (by omega)
  omega
theorem draw_pc {wi hi : Nat} {xs : List Pc} (h : DrL wi hi hi 0 xs) (hr : 2 ≤ wi ∧ wi ≤ 5 ∧ 1 ≤ hi ∧ hi ≤ 2) : ∀ p ∈ xs, p.Ok := fun p hp => by
  have := h.pc p hp
  exact ⟨by omega, by omega, by omega, by omega, by omega, by omega, by omega, by omega, by omega, by omega⟩
theorem byt_of {w : World} {a : Option Addr} {l : List Nb} (ok : ∀ p ∈ l, p.Ok) (h : SlA Nb.enc 1 w a l) : BytA w a (l.map Nb.n) := by
  refine ⟨fun x hx => ?_, fun i x hx => ?_⟩
  · obtain ⟨p, hp, rfl⟩ := List.mem_map.1 hx
    exact ⟨(ok p hp).n0, (ok p hp).n1⟩
  · rw [List.getElem?_map] at hx
    cases hp : l[i]? with
    | none => rw [hp] at hx; cases hx
    | some p =>
      rw [hp] at hx
      injection hx with hx
      obtain ⟨b, o, e, hb, hc⟩ := h.cells (by have := (List.getElem?_eq_some_iff.1 hp).1; omega)
      have := hc i p hp 0 _ rfl
      rw [hx, Nat.mul_one, Nat.add_zero] at this
      exact ⟨b, o, e, this⟩
theorem long_L (a b : Option Addr) (n m c d : Nat) (w : World) :
    Calls Tryz.prog 5 #[.slice a n c, .slice b m d] w fun e w' => ∃ r : Bool, e = .returned (.bool r) ∧ (r = false → n ≤ 3000 ∧ m ≤ 3000) ∧ w = w' := by
  by_cases h1 : n ≤ 3000
  · by_cases h2 : m ≤ 3000
    · have d1 : decide (3000 < (n : Int)) = false := by rw [decide_eq_false_iff_not]; omega
      have d2 : decide (3000 < (m : Int)) = false := by rw [decide_eq_false_iff_not]; omega
      have d3 : decide (3000 < n) = false := by rw [decide_eq_false_iff_not]; omega
      have d4 : decide (3000 < m) = false := by rw [decide_eq_false_iff_not]; omega
      have H := hid (show n ≤ 3000 ∧ m ≤ 3000 from ⟨h1, h2⟩)
      clear h1 h2
      go_enter Tryz.func5, Tryz.ntmps5
      go_wp2_with fail
      go_ret
      exact ⟨false, rfl, fun _ => H.out, rfl⟩
    · have d1 : decide (3000 < (n : Int)) = false := by rw [decide_eq_false_iff_not]; omega
      have d2 : decide (3000 < (m : Int)) = true := by rw [decide_eq_true_iff]; omega
      have d3 : decide (3000 < n) = false := by rw [decide_eq_false_iff_not]; omega
      have d4 : decide (3000 < m) = true := by rw [decide_eq_true_iff]; omega
      clear h1 h2
      go_enter Tryz.func5, Tryz.ntmps5
      go_wp2_with fail
      go_ret
      exact ⟨true, rfl, fun h => (by cases h), rfl⟩
  · have d1 : decide (3000 < (n : Int)) = true := by rw [decide_eq_true_iff]; omega
    have d3 : decide (3000 < n) = true := by rw [decide_eq_true_iff]; omega
    clear h1
    go_enter Tryz.func5, Tryz.ntmps5
    go_wp2_with fail
    go_ret
    exact ⟨true, rfl, fun h => (by cases h), rfl⟩
theorem same_S (a b : Option Addr) (c d : Nat) (xs : List Int) (w : World) (h : SlA en1 1 w a xs) (h2 : SlA en1 1 w b xs) :
    Calls Tryz.prog 47 #[.slice a xs.length c, .slice b xs.length d] w fun e w' => e = .returned (.bool true) ∧ Below w.heap.size w w' := by
  have sa := h.small
  have HW := hid (fun W (hw : Below w.heap.size w W) => (⟨h.below hw, h2.below hw⟩ : SlA en1 1 W a xs ∧ SlA en1 1 W b xs))
  clear h h2
  go_enter Tryz.func47, Tryz.ntmps47
  have e1 : ((xs.length : Int) != (xs.length : Int)) = false := by simp
  have e2 : (xs.length != xs.length) = false := by simp
  go_wp2_with fail
  go_loopw [5] (fun i wr => ∃ k : Nat, k ≤ xs.length ∧ i = .int .i64 k ∧ Below w.heap.size w wr) (fun i _ => xs.length - (intOf i).toNat)
  case atStart => exact ⟨0, Nat.zero_le _, rfl, Below.refl _ _⟩
  case round =>
    obtain ⟨k, hk, rfl, hb⟩ := hrel
    have HB := hid hb
    by_cases hlt : k < xs.length
    · obtain ⟨h, h2⟩ := HW.out wr hb
      obtain ⟨b1, o1, rfl, hb1, hc1⟩ := en1_cells h (by omega)
      obtain ⟨b2, o2, rfl, hb2, hc2⟩ := en1_cells h2 (by omega)
      have ex : xs[k]? = some xs[k] := List.getElem?_eq_getElem hlt
      have Hp := hid ex
      clear ex
      generalize xs[k] = p at *
      have f0 : wr.cell? ⟨b1, o1 + k, none⟩ = some (.int .i64 p) := hc1 k _ Hp.out
      have f1 : wr.cell? ⟨b2, o2 + k, none⟩ = some (.int .i64 p) := hc2 k _ Hp.out
      have hd : decide ((k : Int) < (xs.length : Int)) = true := by rw [decide_eq_true_iff]; omega
      have hpp : (p != p) = false := by simp
      clear hc1 hc2 h h2 hb
      go_wp2_with fail
      go_region
      go_wp2_with fail
      exact ⟨⟨k + 1, by omega, by go_num, HB.out.drew⟩, by simp [intOf]; omega⟩
    · obtain rfl : k = xs.length := by omega
      clear hb
      go_wp2_with fail
      go_ret
      exact ⟨rfl, HB.out⟩
theorem sameA_S (a b : Option Addr) (c d : Nat) (xs : List Int) (w : World) (h : SlA en1 1 w a xs) (h2 : SlA en1 1 w b xs) (n : Nat) (hn : n = xs.length) (m : Nat) (hm : m = xs.length) :
    Calls Tryz.prog 14 #[.slice a n c, .slice b m d] w fun e w' => e = .returned (.bool true) ∧ Below w.heap.size w w' := by
  subst hn hm
  have HC := hid (same_S a b c d xs w h h2)
  clear h h2
  go_enter Tryz.func14, Tryz.ntmps14
  go_wp2_with fail
  refine HC.out.mono ?_
  rintro e w1 ⟨rfl, hb⟩
  have HB := hid hb
  clear hb
  go_wp2_with fail
  go_ret
  exact ⟨rfl, HB.out⟩
theorem hasA_S (a : Option Addr) (c : Nat) (xs : List Int) (v : Int) (w : World) (h : SlA en1 1 w a xs) (n : Nat) (hn : n = xs.length) :
    Calls Tryz.prog 15 #[.slice a n c, .int .i64 v] w fun e w' => e = .returned (.bool (xs.any (isN v))) ∧ Below w.heap.size w w' := by
  subst hn
  have HC := hid (has_S a c xs v w h)
  clear h
  generalize xs.any (isN v) = r at *
  go_enter Tryz.func15, Tryz.ntmps15
  go_wp2_with fail
  refine HC.out.mono ?_
  rintro e w1 ⟨rfl, hb⟩
  have HB := hid hb
  clear hb
  go_wp2_with fail
  go_ret
  exact ⟨rfl, HB.out⟩
end Go.Proofs.YthhfndifcdiomaaGreat
