/-
  The search over free cells, the reference's.
  Conditions: the board is a right one, the cell is free.
-/
import Derived.Test.YtgkgklgeobbmlaaLineG
import Derived.Test.YtgkgklgeobbmlaaApp
import Derived.Test.YtgkgklgeobbmlaaOb
import Derived.Deep.RegionHeld3
namespace Go.Proofs.Ytgkgklgeobbmlaa
open Go.RowKit
set_option linter.unusedSimpArgs false
set_option linter.unusedVariables false

theorem setCell_grownE (w : World) (q j : Nat) (v : Value) : w.grownBy (w.setCell ⟨q, j, none⟩ v) (some q) :=
  ⟨rfl, rfl, rfl, by simp, fun k _ hk => heap_setCell_other w ⟨q, j, none⟩ k v (fun e => hk (by simp [e]))⟩
theorem take_setE {α : Type} (l : List α) (k : Nat) (v : α) (h : k < l.length) : (l.set k v).take (k + 1) = l.take k ++ [v] := by
  rw [List.take_add_one, List.take_set_of_le (Nat.le_refl _), List.getElem?_set_self h]
  rfl
theorem own_setE {w : World} {base n : Nat} {e : TypeId} {size : Nat} {v : Value} {xs : List Value} (h : w.ownsRow base e size v n xs) {b j : Nat} (hb : ∀ k, v.ownBlock = some k → k ≠ b) (u : Value) : (w.setCell ⟨b, j, none⟩ u).ownsRow base e size v n xs :=
  World.ownsRow.kept (row := some b) h (setCell_grownE w b j u) (by
    cases hv : v.ownBlock with
    | none => exact .inl rfl
    | some k => exact .inr (fun e => hb k hv (by injection e)))
/-- The memory of the search. -/
structure FarI (w wr : World) (g wi hi : Nat) (st : BfsT) (AQ : Option Addr) (n cq : Nat) : Prop where
  row : wr.ownsRow w.heap.size 2 1 (.slice (some ⟨g, 0, none⟩) (wi * hi) (wi * hi)) (wi * hi) ((distL wi hi st.2).flatMap en1)
  que : wr.ownsRow (g + 1) 36 2 (.slice AQ n cq) n (st.1.flatMap Ce.enc)
  len : n = st.1.length
  bel : Below w.heap.size w wr
  g0 : w.heap.size ≤ g
  gl : g < wr.heap.size
theorem FarI.below {w wr wr' : World} {g wi hi : Nat} {st : BfsT} {AQ : Option Addr} {n cq : Nat} (h : FarI w wr g wi hi st AQ n cq) (hb : Below wr.heap.size wr wr') : FarI w wr' g wi hi st AQ n cq :=
  ⟨own_step h.row hb, own_step h.que hb, h.len, below_of h.bel h.bel.size hb, h.g0, Nat.lt_of_lt_of_le h.gl hb.size⟩
theorem FarI.upd {w wr : World} {g wi hi : Nat} {st : BfsT} {AQ : Option Addr} {n cq : Nat} (h : FarI w wr g wi hi st AQ n cq) {x y : Int} (hx : 0 ≤ x ∧ x < wi) (hy : 0 ≤ y ∧ y < hi) (v : Int) :
    FarI w (wr.setCell ⟨g, plcN wi x y, none⟩ (.int .i64 v)) g wi hi (st.1, updD st.2 x y v) AQ n cq := by
  have h1 := (h.row.stored (plcN wi x y) (.int .i64 v)).1
  have e : ((distL wi hi st.2).flatMap en1).set (plcN wi x y) (.int .i64 v) = (distL wi hi (updD st.2 x y v)).flatMap en1 := by
    rw [← distL_set _ hx hy, en1_flat, en1_flat, List.map_set]
  rw [e] at h1
  exact ⟨h1, own_setE h.que (fun k hk => by have := (h.que.lt k hk).1; omega) _, h.len, h.bel.setCell h.g0 _, h.g0, by rw [World.size_setCell]; exact h.gl⟩
theorem FarI.cell {w wr : World} {g wi hi : Nat} {st : BfsT} {AQ : Option Addr} {n cq : Nat} (h : FarI w wr g wi hi st AQ n cq) {x y : Int} (hx : 0 ≤ x ∧ x < wi) (hy : 0 ≤ y ∧ y < hi) : wr.cell? ⟨g, plcN wi x y, none⟩ = some (.int .i64 (st.2 x y)) ∧ wr.frozen? ⟨g, plcN wi x y, none⟩ = false :=
  ⟨(h.row.cellAt _ (by rw [Nat.mul_one]; exact plc_lt hx hy)).trans (by rw [en1_flat, List.getElem?_map, distL_at _ hx hy]; rfl), h.row.frozenAt _⟩
theorem flat_Ce {Q : List Ce} {k : Nat} {e : Ce} (h : Q[k]? = some e) : (Q.flatMap Ce.enc)[k * 2]? = some (.int .i8 e.x) ∧ (Q.flatMap Ce.enc)[k * 2 + 1]? = some (.int .i8 e.y) := by
  induction Q generalizing k with
  | nil => simp at h
  | cons p Q ih =>
    cases k with
    | zero =>
      simp at h
      subst h
      exact ⟨rfl, rfl⟩
    | succ k =>
      rw [List.getElem?_cons_succ] at h
      obtain ⟨h1, h2⟩ := ih h
      refine ⟨?_, ?_⟩
      · rw [show (k + 1) * 2 = k * 2 + 1 + 1 by omega]; exact h1
      · rw [show (k + 1) * 2 + 1 = k * 2 + 1 + 1 + 1 by omega]; exact h2
theorem FarI.head {w wr : World} {g wi hi : Nat} {st : BfsT} {AQ : Option Addr} {n cq : Nat} (h : FarI w wr g wi hi st AQ n cq) {k : Nat} {e : Ce} (hk : st.1[k]? = some e) :
    ∃ qb, AQ = some ⟨qb, 0, none⟩ ∧ wr.cell? ⟨qb, k * 2, none⟩ = some (.int .i8 e.x) ∧ wr.cell? ⟨qb, k * 2 + 1, none⟩ = some (.int .i8 e.y) ∧ g < qb := by
  have hkn := (List.getElem?_eq_some_iff.1 hk).1
  have hl := h.len
  obtain ⟨qb, cap', hv, _, _⟩ := h.que.form (by omega)
  injection hv with hv1
  subst hv1
  have hq := h.que
  obtain ⟨h1, h2⟩ := flat_Ce hk
  have c0 := (hq.cellAt (k * 2) (by omega)).trans h1
  exact ⟨qb, rfl, c0, (hq.cellAt (k * 2 + 1) (by omega)).trans h2, (hq.lt qb rfl).1⟩
theorem heldL {w w' : World} {a1 a2 a3 a4 a5 : Addr} {u1 u2 u3 u4 u5 : Value} (hb : Below w.heap.size w w') (h : w.cell? a1 = some u1 ∧ w.cell? a2 = some u2 ∧ w.cell? a3 = some u3 ∧ w.cell? a4 = some u4 ∧ w.cell? a5 = some u5) : w'.cell? a1 = some u1 ∧ w'.cell? a2 = some u2 ∧ w'.cell? a3 = some u3 ∧ w'.cell? a4 = some u4 ∧ w'.cell? a5 = some u5 :=
  ⟨cell_on hb h.1, cell_on hb h.2.1, cell_on hb h.2.2.1, cell_on hb h.2.2.2.1, cell_on hb h.2.2.2.2⟩
theorem heldLs {w : World} {t q g o1 o2 o3 o4 o5 p : Nat} {u1 u2 u3 u4 u5 v : Value} (h1 : g ≠ t) (h2 : g ≠ q) (h3 : p ≠ o5) (h : w.cell? ⟨t, o1, none⟩ = some u1 ∧ w.cell? ⟨t, o2, none⟩ = some u2 ∧ w.cell? ⟨q, o3, none⟩ = some u3 ∧ w.cell? ⟨q, o4, none⟩ = some u4 ∧ w.cell? ⟨g, o5, none⟩ = some u5) :
    (w.setCell ⟨g, p, none⟩ v).cell? ⟨t, o1, none⟩ = some u1 ∧ (w.setCell ⟨g, p, none⟩ v).cell? ⟨t, o2, none⟩ = some u2 ∧ (w.setCell ⟨g, p, none⟩ v).cell? ⟨q, o3, none⟩ = some u3 ∧ (w.setCell ⟨g, p, none⟩ v).cell? ⟨q, o4, none⟩ = some u4 ∧ (w.setCell ⟨g, p, none⟩ v).cell? ⟨g, o5, none⟩ = some u5 := by
  have n1 : ∀ o, (⟨g, p, none⟩ : Addr) ≠ ⟨t, o, none⟩ := fun o e => h1 (by injection e)
  have n2 : ∀ o, (⟨g, p, none⟩ : Addr) ≠ ⟨q, o, none⟩ := fun o e => h2 (by injection e)
  have n3 : (⟨g, p, none⟩ : Addr) ≠ ⟨g, o5, none⟩ := fun e => h3 (by injection e)
  refine ⟨?_, ?_, ?_, ?_, ?_⟩
  · rw [World.cell?_setCell_other _ _ _ _ (by first | exact n1 _ | exact (n1 _).symm)]; exact h.1
  · rw [World.cell?_setCell_other _ _ _ _ (by first | exact n1 _ | exact (n1 _).symm)]; exact h.2.1
  · rw [World.cell?_setCell_other _ _ _ _ (by first | exact n2 _ | exact (n2 _).symm)]; exact h.2.2.1
  · rw [World.cell?_setCell_other _ _ _ _ (by first | exact n2 _ | exact (n2 _).symm)]; exact h.2.2.2.1
  · rw [World.cell?_setCell_other _ _ _ _ (by first | exact n3 | exact n3.symm)]; exact h.2.2.2.2
theorem own_belowB {w w' : World} {base B g : Nat} {e : TypeId} {size n c : Nat} {l : List Value} (h : w.ownsRow base e size (.slice (some ⟨g, 0, none⟩) n c) n l) (hb : Below B w w') (hg : g < B) : w'.ownsRow base e size (.slice (some ⟨g, 0, none⟩) n c) n l := by
  refine ⟨h.1, ?_⟩
  rcases h.2 with h1 | ⟨g', cap, cur, h1, h2, h3, h4⟩
  · exact .inl h1
  · have e1 : g' = g := by injection h1 with h1; injection h1 with h1; injection h1 with h1; exact h1.symm
    subst e1
    exact .inr ⟨g', cap, cur, h1, h2, (hb.block g' hg).trans h3, h4⟩
theorem index_S (bb wi : Nat) (hw : wi ≤ 24) (x y : Int) (w : World) (hx : 0 ≤ x ∧ x ≤ 23) (hy : 0 ≤ y ∧ y ≤ 23) (c0 : w.cell? ⟨bb, 0, none⟩ = some (.int .i8 (wi : Int))) :
    Calls Try.prog 89 #[.pointer (some ⟨bb, 0, none⟩), .agg #[.int .i8 x, .int .i8 y]] w fun e w' => e = .returned (.int .i64 (plcN wi x y : Nat)) ∧ Below w.heap.size w w' := by
  have hbl := World.block_lt_of_cell? w _ c0
  have hp := plc_int (wi := wi) hx.1 hy.1
  have hm : 0 ≤ y * (wi : Int) ∧ y * (wi : Int) ≤ 23 * 24 := ⟨Int.mul_nonneg hy.1 (by omega), Int.mul_le_mul hy.2 (by omega) (by omega) (by omega)⟩
  have HP := hid hp
  have hB : ∀ o, Below w.heap.size w (w.alloc o) := fun o => (Below.refl _ _).alloc (Nat.le_refl _) o
  have f0 : ∀ o, (w.alloc o).cell? ⟨bb, 0, none⟩ = some (.int .i8 (wi : Int)) := fun o => cell_on (hB o) c0
  have w1 : IntKind.i64.wrap y = y := IntWalk.i64_in _ (by omega)
  have w2 : IntKind.i64.wrap x = x := IntWalk.i64_in _ (by omega)
  have w3 : IntKind.i64.wrap (wi : Int) = (wi : Int) := IntWalk.i64_in _ (by omega)
  obtain ⟨m, hmm⟩ : ∃ m, y * (wi : Int) = m := ⟨_, rfl⟩
  rw [hmm] at hm
  have w4 : IntKind.i64.wrap (y * (wi : Int)) = m := by rw [hmm]; exact IntWalk.i64_in _ (by omega)
  have w5 : IntKind.i64.wrap (m + x) = m + x := IntWalk.i64_in _ (by omega)
  have HM := hid hmm
  clear hp hmm hm c0
  go_enter Try.func89, Try.ntmps89
  go_wp2_with fail
  go_region
  go_wp2_with fail
  go_ret
  exact ⟨ret_int (by rw [← HP.out, HM.out]), (hB _).drew⟩
theorem sides_len {F : Int → Int → Bool} {e : Ce} {st : BfsT} (k : Nat) : st.1.length ≤ (sidesQ F e k st).1.length := by
  obtain ⟨l, hl⟩ := sides_pre (F := F) (e := e) (st := st) k
  rw [hl, List.length_append]
  omega
theorem rep_take {cs : List Value} {k n : Nat} {v : Value} (hl : cs.length = n) (hk : k < n) (h : cs.take k = List.replicate k v) : (cs.set k v).take (k + 1) = List.replicate (k + 1) v := by
  rw [take_setE _ _ _ (by omega), h, List.replicate_succ']
set_option maxRecDepth 100000 in
set_option maxHeartbeats 16000000 in
theorem far_S (bb : Nat) (wi hi : Nat) (hw : 1 ≤ wi ∧ wi ≤ 24) (hh : 1 ≤ hi ∧ hi ≤ 24) (a : Option Addr) (c : Nat) (xs : List Pc) (cx cy : Int) (w : World) (hb : BdA w bb wi hi a xs.length c) (h : SlA Pc.enc 5 w a xs) (hf : freeG wi hi xs cx cy = true) :
    Calls Try.prog 88 #[.pointer (some ⟨bb, 0, none⟩), .agg #[.int .i8 cx, .int .i8 cy]] w fun e w' => ∃ g, e = .returned (.slice (some ⟨g, 0, none⟩) (wi * hi) (wi * hi)) ∧ Below w.heap.size w w' ∧ w'.ownsRow w.heap.size 2 1 (.slice (some ⟨g, 0, none⟩) (wi * hi) (wi * hi)) (wi * hi) ((distL wi hi (farD wi hi xs cx cy)).flatMap en1) := by
  have hin := free_in hf
  have HFr := hid (fun W (hW : Below w.heap.size w W) x y (hx : -1 ≤ x ∧ x ≤ 24) (hy : -1 ≤ y ∧ y ≤ 24) => free_S bb wi hi a c xs x y W (by omega) (by omega) (hb.below hW hb.lt) (h.below hW))
  have HIx := hid (fun W (hW : Below w.heap.size w W) x y (hx : 0 ≤ x ∧ x ≤ 23) (hy : 0 ≤ y ∧ y ≤ 23) => index_S bb wi hw.2 x y W hx hy (hb.below hW hb.lt).c0)
  have HB0 := hid (fun W (hW : Below w.heap.size w W) => (hb.below hW hb.lt).c0)
  have HOk := hid (fun k => bfs_ok (F := freeG wi hi xs) (c := ⟨cx, cy⟩) hf k)
  have HEnd := hid (fun k (hk : k = (bfsQ (freeG wi hi xs) ⟨cx, cy⟩ k).1.length) => far_of (wi := wi) (hi := hi) (xs := xs) (c := ⟨cx, cy⟩) hf hk)
  have HLen := hid (fun k => nodup_board (wi := wi) (hi := hi) (bfs_ok (F := freeG wi hi xs) (c := ⟨cx, cy⟩) hf k).nd (fun e he => free_in ((bfs_ok (F := freeG wi hi xs) (c := ⟨cx, cy⟩) hf k).fr e he)))
  have HBnd := hid (fun st (h : BfsOk (freeG wi hi xs) ⟨cx, cy⟩ st) => nodup_board (wi := wi) (hi := hi) h.nd (fun e he => free_in (h.fr e he)))
  have HFin := hid (fun x y (h : freeG wi hi xs x y = true) => free_in h)
  have HD := hid (show farD wi hi xs cx cy = (bfsQ (freeG wi hi xs) ⟨cx, cy⟩ (wi * hi)).2 by unfold farD; rw [Int.toNat_natCast, Int.toNat_natCast])
  generalize farD wi hi xs cx cy = FD at *
  have hNw : wi * hi ≤ 24 * 24 := Nat.mul_le_mul hw.2 hh.2
  have hN1 : 1 ≤ wi * hi := Nat.mul_le_mul hw.1 hh.1
  have g0 := hb.c0
  have g1 := hb.c1
  have hNi : (wi : Int) * (hi : Int) = ((wi * hi : Nat) : Int) := (Int.natCast_mul wi hi).symm
  obtain ⟨N, hN⟩ : ∃ N, wi * hi = N := ⟨_, rfl⟩
  have HN := hid hN
  rw [hN] at hNi hNw hN1 HLen HD HBnd HEnd
  have hmk := make_any (P := Try.prog) 52 2 (.int .i64 0) 1 8 Try.underlying52 (by kernel_rfl) N (by omega) (by omega)
  simp only [Nat.mul_one] at hmk
  have w0 : IntKind.i64.wrap (wi : Int) = (wi : Int) := IntWalk.i64_in _ (by omega)
  have w1 : IntKind.i64.wrap (hi : Int) = (hi : Int) := IntWalk.i64_in _ (by omega)
  have w2 : IntKind.i64.wrap ((wi : Int) * (hi : Int)) = (N : Int) := by rw [hNi]; exact IntWalk.i64_in _ (by omega)
  generalize freeG wi hi xs = F at *
  obtain ⟨W1, hW1⟩ : ∃ W, W = w.alloc (Obj.cells #[.int .i8 cx, .int .i8 cy] 36) := ⟨_, rfl⟩
  have B1 : Below w.heap.size w W1 := by rw [hW1]; exact (Below.refl _ _).alloc (Nat.le_refl _) _
  have k0 : W1.cell? ⟨w.heap.size, 0, none⟩ = some (.int .i8 cx) := by rw [hW1]; simp
  have k1 : W1.cell? ⟨w.heap.size, 1, none⟩ = some (.int .i8 cy) := by rw [hW1]; simp
  have j0 := cell_on B1 g0
  have j1 := cell_on B1 g1
  have hz1 := B1.size
  have HB1 := hid B1
  obtain ⟨cb, hcb⟩ : ∃ cb, w.heap.size = cb := ⟨_, rfl⟩
  have hcl : cb < W1.heap.size := by rw [hW1, ← hcb]; simp
  rw [hcb] at k0 k1
  rw [hN]
  clear g0 g1 hb h hf hN B1
  go_enter Try.func88, Try.ntmps88
  go_upto_region 1 with fail
  rw [← hW1]
  clear hW1
  (try rw [hcb])
  go_region
  obtain ⟨W2, hW2⟩ : ∃ W, W = (W1.alloc (Obj.cells (madeCells #[.int .i64 0] N) 2)).drew := ⟨_, rfl⟩
  rw [← hW2]
  have own0 : W2.ownsRow w.heap.size 2 1 (.slice (some ⟨W1.heap.size, 0, none⟩) N N) N (madeCells #[.int .i64 0] N).toList := by
    rw [hW2]
    exact own_step (World.ownsRow_lit W1 (madeCells #[.int .i64 0] N) _ hz1 (by simp only [maxLen]; omega) (by rw [size_madeCells, Nat.mul_one])) ((Below.refl _ _).drew)
  have B2 : Below W1.heap.size W1 W2 := by rw [hW2]; exact ((Below.refl _ _).alloc (Nat.le_refl _) _).drew
  have hg2 : W1.heap.size < W2.heap.size := by rw [hW2]; simp
  have HB2 := hid (below_of HB1.out HB1.out.size B2)
  have i0 := cell_on B2 k0
  have i1 := cell_on B2 k1
  obtain ⟨g, hg⟩ : ∃ g, W1.heap.size = g := ⟨_, rfl⟩
  rw [hg] at own0 hg2 hcl hz1
  rw [hg]
  have HG0 := hid hz1
  have HOW := hid own0
  have HI0 := hid i0
  have HI1 := hid i1
  clear k0 k1 j0 j1 B2 hW2 hg own0 w0 w1 w2 hmk i0 i1 hz1 HB1
  go_wp2_with fail
  go_loopw [6] (fun iv wr => ∃ (k : Nat) (cs : List Value), k ≤ N ∧ iv = .int .i64 k ∧ cs.take k = List.replicate k (.int .i64 (-1)) ∧ wr.ownsRow w.heap.size 2 1 (.slice (some ⟨g, 0, none⟩) N N) N cs ∧ Below w.heap.size w wr ∧ wr.cell? ⟨cb, 0, none⟩ = some (.int .i8 cx) ∧ wr.cell? ⟨cb, 1, none⟩ = some (.int .i8 cy) ∧ g < wr.heap.size) (fun iv _ => N - (intOf iv).toNat)
  case atStart => exact ⟨0, _, Nat.zero_le _, rfl, by simp, HOW.out, HB2.out, HI0.out, HI1.out, hg2⟩
  case round =>
    obtain ⟨k, cs, hk, rfl, ht, own, hbl, i0, i1, hgl⟩ := hrel
    have HT := hid ht
    have HO := hid own
    have HBl := hid hbl
    by_cases hlt : k < N
    · have hd : decide ((k : Int) < (N : Int)) = true := by rw [decide_eq_true_iff]; omega
      have hki : (k : Int) < (N : Int) := by omega
      have wk : IntKind.i64.wrap ((k : Int) + 1) = (k : Int) + 1 := IntWalk.i64_in _ (by omega)
      have hcs : cs.length = N * 1 := own.1
      have c0 : wr.cell? ⟨g, k, none⟩ = some (cs.getD k undef) := (own.cellAt _ (by omega)).trans (getD_some (by omega))
      have z0 : wr.frozen? ⟨g, k, none⟩ = false := own.frozenAt _
      have hgc : g ≠ cb := by omega
      have HCs := hid hcs
      have HI0' := hid i0
      have HI1' := hid i1
      clear ht own hbl hcs i0 i1
      go_wp2_with fail
      have h0 : _ ∧ _ := HO.out.stored k (.int .i64 (-1))
      exact ⟨⟨k + 1, _, by omega, by go_num, rep_take (by have := HCs.out; omega) hlt HT.out, h0.1, HBl.out.setCell HG0.out _, by rw [World.cell?_setCell_other _ _ _ _ (by first | (simp; done) | (simp; omega))]; exact HI0'.out, by rw [World.cell?_setCell_other _ _ _ _ (by first | (simp; done) | (simp; omega))]; exact HI1'.out, by rw [World.size_setCell]; exact hgl⟩, by simp [intOf]; omega⟩
    · have hkn : k = N := by omega
      subst hkn
      have hd : decide ((k : Int) < (k : Int)) = false := by rw [decide_eq_false_iff_not]; omega
      have hfull : cs = (distL wi hi (fun _ _ => -1)).flatMap en1 := by
        have h1 := own.1
        rw [List.take_of_length_le (by omega)] at ht
        rw [ht, distL_none, HN.out, en1_flat, List.map_replicate]
      rw [hfull] at own
      have HO := hid own
      have HIx2 := hid (fun oo => HIx.out (wr.alloc oo) (below_of hbl hbl.size ((Below.refl _ _).alloc (Nat.le_refl _) _)) cx cy (by omega) (by omega))
      have i2 : ∀ oo, (wr.alloc oo).cell? ⟨cb, 0, none⟩ = some (.int .i8 cx) := fun oo => cell_on ((Below.refl wr.heap.size wr).alloc (Nat.le_refl _) _) i0
      have i3 : ∀ oo, (wr.alloc oo).cell? ⟨cb, 1, none⟩ = some (.int .i8 cy) := fun oo => cell_on ((Below.refl wr.heap.size wr).alloc (Nat.le_refl _) _) i1
      clear ht own hfull hbl
      go_wp2_with fail
      obtain ⟨W3, hW3⟩ : ∃ W, W = wr.alloc (Obj.cells #[.int .i8 cx, .int .i8 cy] 36) := ⟨_, rfl⟩
      have B3 : Below wr.heap.size wr W3 := by rw [hW3]; exact (Below.refl _ _).alloc (Nat.le_refl _) _
      have hqr := World.ownsRow_lit wr #[.int .i8 cx, .int .i8 cy] 1 (show g + 1 ≤ wr.heap.size from hgl) (by simp [maxLen]) (e := 36) (size := 2) (by simp)
      rw [← hW3] at hqr
      have HFI : Hid (FarI w W3 g wi hi ([⟨cx, cy⟩], fun _ _ => -1) (some ⟨wr.heap.size, 0, none⟩) 1 1) := hid ⟨by rw [HN.out]; exact own_step HO.out B3, by simpa [Ce.enc] using hqr, rfl, below_of HBl.out HBl.out.size B3, HG0.out, Nat.lt_of_lt_of_le hgl B3.size⟩
      have hbd3 := HFI.out.bel
      have HIx2 := hid (HIx.out W3 hbd3 cx cy (by omega) (by omega))
      have hpn : plcN wi cx cy < k := by rw [← HN.out]; exact plc_lt hin.1 hin.2
      obtain ⟨pc, hpc⟩ : ∃ pc, plcN wi cx cy = pc := ⟨_, rfl⟩
      rw [hpc] at HIx2 hpn
      have hpi : (pc : Int) < (k : Int) := by omega
      have hpk : pc < k := hpn
      have HW3 := hid hW3
      obtain ⟨qb, hqb⟩ : ∃ qb, wr.heap.size = qb := ⟨_, rfl⟩
      rw [hqb] at HFI
      rw [← hW3, hqb]
      clear hW3 B3 hqr hbd3 i2 i3 i0 i1
      refine HIx2.out.mono ?_
      rintro e v1 ⟨rfl, hb1⟩
      have hfi := HFI.out.below hb1
      obtain ⟨f0, z0⟩ := hfi.cell hin.1 hin.2
      have hup := hfi.upd hin.1 hin.2 0
      rw [hpc] at f0 z0 hup
      have HUp : Hid (FarI w (v1.setCell ⟨g, pc, none⟩ (.int .i64 0)) g wi hi (bfsQ F ⟨cx, cy⟩ 0) (some ⟨qb, 0, none⟩) 1 1) := hid hup
      clear hb1 hfi hup hpc hqb
      go_wp2_with fail
      obtain ⟨V, hV⟩ : ∃ V, V = v1.setCell ⟨g, pc, none⟩ (.int .i64 0) := ⟨_, rfl⟩
      rw [← hV] at HUp ⊢
      obtain ⟨N, hNk⟩ : ∃ N, N = k := ⟨_, rfl⟩
      subst hNk
      clear hV hd HFI HIx2 f0 z0 hpi hpk hpn HW3 HT HO HBl hlt hk
      go_loopw [7, 8] (fun qv kv wr => ∃ (j n cq : Nat) (AQ : Option Addr), j ≤ n ∧ kv = .int .i64 j ∧ qv = .slice AQ n cq ∧ FarI w wr g wi hi (bfsQ F ⟨cx, cy⟩ j) AQ n cq) (fun _ kv _ => N + 1 - (intOf kv).toNat)
      case atStart => exact ⟨0, 1, 1, _, by omega, rfl, rfl, HUp.out⟩
      case round =>
        clear HUp
        obtain ⟨j, n, cq, AQ, hj, rfl, rfl, hfi⟩ := hrel
        have HFi := hid hfi
        have hnl := hfi.len
        have hnN : n ≤ N := by rw [hnl]; exact HLen.out j
        by_cases hlt : j < n
        · have hd : decide ((j : Int) < (n : Int)) = true := by rw [decide_eq_true_iff]; omega
          have wj : IntKind.i64.wrap ((j : Int) + 1) = (j : Int) + 1 := IntWalk.i64_in _ (by omega)
          have hjl : j < (bfsQ F ⟨cx, cy⟩ j).1.length := by omega
          obtain ⟨e, he⟩ : ∃ e, (bfsQ F ⟨cx, cy⟩ j).1[j]? = some e := ⟨_, List.getElem?_eq_getElem hjl⟩
          have HSt := hid (show bfsQ F ⟨cx, cy⟩ (j + 1) = sidesQ F e 4 (bfsQ F ⟨cx, cy⟩ j) by conv => lhs; unfold bfsQ; rw [he])
          have HOkj := hid (HOk.out j)
          have HE := hid he
          have hjN : j < N := by omega
          have hein := HFin.out e.x e.y ((HOk.out j).fr e (List.mem_of_getElem? he))
          clear hfi hnl hjl he
          generalize bfsQ F ⟨cx, cy⟩ j = st at *
          obtain ⟨V2, hV2⟩ : ∃ V, V = wr := ⟨_, rfl⟩
          subst hV2
          go_wp2_with fail
          clear hd
          go_loopw [7, 9] (fun qv sv wr => ∃ (s n cq : Nat) (AQ : Option Addr), s ≤ 4 ∧ sv = .int .i64 s ∧ qv = .slice AQ n cq ∧ j < n ∧ FarI w wr g wi hi (sidesQ F e s st) AQ n cq) (fun _ sv _ => 4 - (intOf sv).toNat)
          case atStart => exact ⟨0, n, cq, AQ, by omega, rfl, rfl, hlt, HFi.out⟩
          case round =>
            clear HFi hlt hj hnN
            obtain ⟨s, n, cq, AQ, hs, rfl, rfl, hjn, hfi⟩ := hrel
            have HFi := hid hfi
            by_cases hs4 : s < 4
            · have hsi : (s : Int) < 4 := by omega
              have hd2 : decide ((s : Int) < 4) = true := by rw [decide_eq_true_iff]; omega
              have ws : IntKind.i64.wrap ((s : Int) + 1) = (s : Int) + 1 := IntWalk.i64_in _ (by omega)
              have hji : (j : Int) < (n : Int) := by omega
              have HEs := hid (show (sidesQ F e s st).1[j]? = some e by
                obtain ⟨l, hl⟩ := sides_pre (F := F) (e := e) (st := st) s
                rw [hl, List.getElem?_append_left (List.getElem?_eq_some_iff.1 HE.out).1]
                exact HE.out)
              have HSs := hid (show sidesQ F e (s + 1) st = sideQ F e (s : Int) (sidesQ F e s st) from rfl)
              have HLs := hid (HBnd.out _ (sides_ok HOkj.out (List.mem_of_getElem? HE.out) (s + 1) (by omega)))
              rw [HSs.out] at HLs
              obtain ⟨qb, rfl, q0, q1, hql⟩ := hfi.head HEs.out
              have HNx := hid (next_S e.x e.y s wr (by omega) (by omega))
              have hX : -1 ≤ nx e.x s ∧ nx e.x s ≤ 24 := by unfold nx; split <;> (try split) <;> omega
              have hY : -1 ≤ ny e.y s ∧ ny e.y s ≤ 24 := by unfold ny; split <;> (try split) <;> omega
              have HSq := hid (show sideQ F e (s : Int) (sidesQ F e s st) = (if F (nx e.x s) (ny e.y s) = true ∧ (sidesQ F e s st).2 (nx e.x s) (ny e.y s) < 0 then ((sidesQ F e s st).1 ++ [⟨nx e.x s, ny e.y s⟩], updD (sidesQ F e s st).2 (nx e.x s) (ny e.y s) ((sidesQ F e s st).2 e.x e.y + 1)) else sidesQ F e s st) from rfl)
              have HOks := hid (sides_ok HOkj.out (List.mem_of_getElem? HE.out) s (by omega))
              generalize nx e.x s = X at *
              generalize ny e.y s = Y at *
              generalize sidesQ F e s st = st' at *
              have HQ0 := hid q0
              have HQ1 := hid q1
              clear hfi
              go_wp2_with fail
              refine HNx.out.mono ?_
              rintro e1 v1 ⟨rfl, hb1⟩
              obtain ⟨V1, hV1⟩ : ∃ V, V = v1.alloc (Obj.cells #[.int .i8 X, .int .i8 Y] 36) := ⟨_, rfl⟩
              have hgtb : g < v1.heap.size := (HFi.out.below hb1).gl
              have hbV : Below v1.heap.size v1 V1 := by rw [hV1]; exact (Below.refl _ _).alloc (Nat.le_refl _) _
              have hbW : Below wr.heap.size wr V1 := below_of hb1 hb1.size hbV
              have HQ0 := hid (cell_on hbW HQ0.out)
              have HQ1 := hid (cell_on hbW HQ1.out)
              have HT0 := hid (show V1.cell? ⟨v1.heap.size, 0, none⟩ = some (.int .i8 X) by rw [hV1]; simp)
              have HT1 := hid (show V1.cell? ⟨v1.heap.size, 1, none⟩ = some (.int .i8 Y) by rw [hV1]; simp)
              have HFi := hid (HFi.out.below hbW)
              have HCl := hid (HFr.out V1 HFi.out.bel X Y hX hY)
              obtain ⟨tb, htb⟩ : ∃ tb, v1.heap.size = tb := ⟨_, rfl⟩
              rw [htb] at HT0 HT1 hgtb
              clear hbV hbW hb1 q0 q1
              go_wp2_with fail
              rw [← hV1]
              clear hV1
              (try rw [htb])
              clear htb
              refine HCl.out.mono ?_
              rintro e2 v2 ⟨rfl, hb2⟩
              have HQ0 := hid (cell_on hb2 HQ0.out)
              have HQ1 := hid (cell_on hb2 HQ1.out)
              have t0 := cell_on hb2 HT0.out
              have t1 := cell_on hb2 HT1.out
              have HFi := hid (HFi.out.below hb2)
              have HB2' := hid hb2
              cases hFX : F X Y with
              | false =>
                have HSn := hid (show sideQ F e (s : Int) st' = st' by rw [HSq.out, if_neg (by rw [hFX]; simp)])
                clear hb2 hFX t0 t1
                go_wp2_with fail
                exact ⟨⟨s + 1, n, cq, _, by omega, by go_num, rfl, hjn, by rw [HSs.out, HSn.out]; exact HFi.out⟩, by simp [intOf]; omega⟩
              | true =>
                obtain ⟨hx1, hy1⟩ := HFin.out X Y hFX
                have HIy := hid (HIx.out v2 HFi.out.bel X Y (by omega) (by omega))
                have hpN : plcN wi X Y < N := by rw [← HN.out]; exact plc_lt hx1 hy1
                have HFX := hid hFX
                obtain ⟨p, hp⟩ : ∃ p, plcN wi X Y = p := ⟨_, rfl⟩
                rw [hp] at HIy hpN
                have HPp := hid hp
                clear hb2 hFX hp
                go_wp2_with fail
                refine HIy.out.mono ?_
                rintro e3 v3 ⟨rfl, hb3⟩
                have HQ0 := hid (cell_on hb3 HQ0.out)
                have HQ1 := hid (cell_on hb3 HQ1.out)
                have HT0 := hid (cell_on hb3 t0)
                have HT1 := hid (cell_on hb3 t1)
                have hfi3 := HFi.out.below hb3
                obtain ⟨f0, z0⟩ := hfi3.cell hx1 hy1
                rw [HPp.out] at f0 z0
                have HFi := hid hfi3
                obtain ⟨d, hdd⟩ : ∃ d, st'.2 X Y = d := ⟨_, rfl⟩
                rw [hdd] at f0
                have HDd := hid hdd
                have hpi : (p : Int) < (N : Int) := by omega
                clear hb3 hfi3 t0 t1 hdd
                by_cases hd0 : 0 ≤ d
                · have hdd : decide (0 ≤ d) = true := by rw [decide_eq_true_iff]; exact hd0
                  have HSn := hid (show sideQ F e (s : Int) st' = st' by rw [HSq.out, if_neg (by rw [HDd.out]; omega)])
                  clear hd0
                  go_wp2_with fail
                  exact ⟨⟨s + 1, n, cq, _, by omega, by go_num, rfl, hjn, by rw [HSs.out, HSn.out]; exact HFi.out⟩, by simp [intOf]; omega⟩
                · have hdd : decide (0 ≤ d) = false := by rw [decide_eq_false_iff_not]; exact hd0
                  have HSn := hid (show sideQ F e (s : Int) st' = (st'.1 ++ [⟨X, Y⟩], updD st'.2 X Y (st'.2 e.x e.y + 1)) by rw [HSq.out, if_pos ⟨HFX.out, by rw [HDd.out]; omega⟩])
                  have HD0 := hid hd0
                  clear hd0
                  go_wp2_with fail
                  have HOn := hid (HOks.out)
                  have hlt' := HOks.out.lt e.x e.y
                  have hng' := HOks.out.neg e.x e.y
                  have hnn := HFi.out.len
                  have hnb := HBnd.out _ HOks.out
                  obtain ⟨fe, -⟩ := HFi.out.cell hein.1 hein.2
                  obtain ⟨pe, hpe⟩ : ∃ pe, plcN wi e.x e.y = pe := ⟨_, rfl⟩
                  obtain ⟨de, hde⟩ : ∃ de, st'.2 e.x e.y = de := ⟨_, rfl⟩
                  rw [hpe, hde] at fe
                  rw [hde] at hlt' hng' HSn
                  have wde : IntKind.i64.wrap (de + 1) = de + 1 := IntWalk.i64_in _ (by omega)
                  have hpX := HPp.out
                  have hXb : 0 ≤ X ∧ X ≤ 23 := by omega
                  have hYb : 0 ≤ Y ∧ Y ≤ 23 := by omega
                  have hEb : (0 ≤ e.x ∧ e.x ≤ 23) ∧ (0 ≤ e.y ∧ e.y ≤ 23) := by omega
                  have hgl3 : g < v3.heap.size := HFi.out.gl
                  have hpeN : pe < N := by rw [← hpe, ← HN.out]; exact plc_lt hein.1 hein.2
                  have hpei : (pe : Int) < (N : Int) := by omega
                  have hUp := fun (W : World) (hW : Below v3.heap.size v3 W) => (HFi.out.below hW).upd hx1 hy1 (de + 1)
                  rw [hpX] at hUp
                  have HUp := hid hUp
                  have HBx := hid (fun (W : World) (hW : Below v3.heap.size v3 W) => HB0.out W (HFi.out.below hW).bel)
                  have q0 := HQ0.out
                  have q1 := HQ1.out
                  have t0 := HT0.out
                  have t1 := HT1.out
                  have hgt1 : g ≠ tb := by omega
                  have hde0 : 0 ≤ de := by rw [← hde]; exact (HOks.out.dom e.x e.y).2 (List.mem_of_getElem? HEs.out)
                  have hd1 : d < 0 := by have := HD0.out; omega
                  have hpp : p ≠ pe := fun h => by
                    rw [h, fe] at f0
                    injection f0 with f0
                    injection f0 with _ f0
                    omega
                  have hgt2 : g ≠ qb := by omega
                  clear hUp hlt' hng' hnn hnb hdd hde
                  go_cut [] from 68 to 82 (fun wx => FarI w wx g wi hi (st'.1, updD st'.2 X Y (de + 1)) (some ⟨qb, 0, none⟩) n cq ∧ wx.cell? ⟨tb, 0, none⟩ = some (.int .i8 X) ∧ wx.cell? ⟨tb, 1, none⟩ = some (.int .i8 Y))
                  case first =>
                    go_region_held3 (fun w' => w'.cell? ⟨tb, 0, none⟩ = some (.int .i8 X) ∧ w'.cell? ⟨tb, 1, none⟩ = some (.int .i8 Y) ∧ w'.cell? ⟨qb, j * 2, none⟩ = some (.int .i8 e.x) ∧ w'.cell? ⟨qb, j * 2 + 1, none⟩ = some (.int .i8 e.y) ∧ w'.cell? ⟨g, pe, none⟩ = some (.int .i64 de))
                      (first | with_reducible assumption | with_reducible exact ⟨t0, t1, q0, q1, fe⟩ | with_reducible exact ⟨cell_on ((Below.refl v3.heap.size v3).drew) t0, cell_on ((Below.refl v3.heap.size v3).drew) t1, cell_on ((Below.refl v3.heap.size v3).drew) q0, cell_on ((Below.refl v3.heap.size v3).drew) q1, cell_on ((Below.refl v3.heap.size v3).drew) fe⟩ | with_reducible exact R4 | with_reducible exact R5 | with_reducible exact heldLs hgt1 hgt2 hpp R5 | fail)
                      (first
                        | (go_at_call 89; have mark := hb4; refine (index_S bb wi hw.2 _ _ _ ?hx ?hy (HBx.out _ hb4)).mono ?_; (case hx => first | with_reducible exact hXb | with_reducible exact hEb.1); (case hy => first | with_reducible exact hYb | with_reducible exact hEb.2); rintro e5 v5 ⟨rfl, hb5⟩; have hb45 := below_of hb4 hb4.size hb5; have R5 := heldL hb5 R4; have zz : v5.frozen? ⟨g, p, none⟩ = false := (hb45.frozen (p := ⟨g, p, none⟩) hgl3).trans z0; have fe5 := cell_on hb5 fe4; have f05 := cell_on hb5 f04)
                        | (go_at_call 89; refine (index_S bb wi hw.2 _ _ _ ?hx ?hy (HBx.out _ ((Below.refl v3.heap.size v3).drew))).mono ?_; (case hx => first | with_reducible exact hXb | with_reducible exact hEb.1); (case hy => first | with_reducible exact hYb | with_reducible exact hEb.2); rintro e4 v4 ⟨rfl, hb4'⟩; have hb4 := below_of ((Below.refl v3.heap.size v3).drew) ((Below.refl v3.heap.size v3).drew).size hb4'; have R4 := heldL hb4 ⟨t0, t1, q0, q1, fe⟩; have fe4 := cell_on hb4 fe; have f04 := cell_on hb4 f0))
                    all_goals (
                      go_wp2_with fail
                      go_meet
                      exact ⟨HUp.out v5 hb45, (heldLs hgt1 hgt2 hpp R5).1, (heldLs hgt1 hgt2 hpp R5).2.1⟩)
                  case rest =>
                    obtain ⟨hfi6, t0', t1'⟩ := hcut
                    have HF6 := hid hfi6
                    have hz6 := hfi6.gl
                    have hz7 : g + 1 ≤ wc.heap.size := hz6
                    clear hfi6 f0 fe t0 t1 q0 q1 z0 hgl3 hpX hpe
                    go_wp2_with (at_builtin; refine app_one (w := wc) 67 36 (.agg Ce.z.enc.toArray) 2 2 Try.underlying67 (by kernel_rfl) rfl (by decide) (g + 1) _ n _ HF6.out.que ?d1 (by decide) hz7 [.int .i8 X, .int .i8 Y] _ _ rfl rfl rfl _ rfl ?d3 rfl (by intro u hu; simp at hu; rcases hu with rfl | rfl <;> rfl) ?_)
                    case d1 => have h1 : n = st'.1.length := HF6.out.len; have := HBnd.out _ HOks.out; omega
                    case d3 => rfl
                    intro A7 c7 w7 own7 hb7 hg7 hat7
                    have HF7 : Hid (FarI w w7 g wi hi (st'.1 ++ [⟨X, Y⟩], updD st'.2 X Y (de + 1)) A7 (n + 1) c7) := hid ⟨own_belowB HF6.out.row hb7 (Nat.lt_succ_self g), by rw [List.flatMap_append]; exact own7, by rw [List.length_append, ← HF6.out.len]; rfl, HF6.out.bel.trans (hb7.mono (by have := HF6.out.g0; omega)), HF6.out.g0, Nat.lt_of_lt_of_le hz6 hb7.size⟩
                    clear own7 hb7 hg7 hat7
                    go_wp2_with fail
                    exact ⟨⟨s + 1, n + 1, c7, A7, by omega, by go_num, by go_num, by omega, by rw [HSs.out, HSn.out]; exact HF7.out⟩, by simp [intOf]; omega⟩
            · have hs4' : s = 4 := by omega
              subst hs4'
              have hd2 : decide ((4 : Nat) < (4 : Nat)) = false := by decide
              clear hfi
              go_wp2_with fail
              exact ⟨⟨j + 1, n, cq, AQ, by omega, by go_num, rfl, by rw [HSt.out]; exact HFi.out⟩, by simp [intOf]; omega⟩
        · have hjn : j = n := by omega
          subst hjn
          have hd : decide ((j : Int) < (j : Int)) = false := by rw [decide_eq_false_iff_not]; omega
          have hE := HEnd.out j hnl
          have hDD := HD.out
          rw [hE] at hDD
          have HDD := hid hDD
          clear hfi hnl hE hDD
          go_wp2_with fail
          refine bodyPost_ret (v := .slice (some ⟨g, 0, none⟩) N N) (by simp [results, Try.results88, go_sem]) rfl ⟨g, rfl, HFi.out.bel, ?_⟩
          rw [HDD.out, ← HN.out]
          exact HFi.out.row
end Go.Proofs.Ytgkgklgeobbmlaa
