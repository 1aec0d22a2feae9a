/-
  copy of elements of several cells, into a row that is there.
  Two cells laid into a list of cells (slices.Insert), the list being a row of the caller's own.
  Conditions: none; general law. the place lies ahead of the list's end.
-/
import Derived.Test.YtgkgklgeobbmlaaBase
import Derived.Shelf.Spec.SlicesInsert
import Derived.Lib.AppendZerosOnto
import Derived.Laws.NewBlocks
import Derived.Laws.OwnMore
import Derived.Test.YtgkgklgeobbmlaaLonger
namespace Go.Proofs.Ytgkgklgeobbmlaa
open Go.RowKit Go.Lib
set_option linter.unusedSimpArgs false
set_option linter.unusedVariables false

theorem copy_cells_sz {P : Program} (w : World) (dT sT ty elem : TypeId) (size : Nat) (b o dLen dCap : Nat) (a : Addr) (sLen sCap : Nat) (cs : List Value)
    (hu : P.underlying dT = some (.slice elem)) (hs : (P.info? elem).map (·.size) = some size) (hn : cs.length = Nat.min sLen dLen * size)
    (hsrc : ∀ j v, cs[j]? = some v → w.cell? (a.add j) = some v) (hc : ∀ j, j < cs.length → (w.cell? ⟨b, o + j, none⟩).isSome = true) (hf : ∀ j, j < cs.length → w.frozen? ⟨b, o + j, none⟩ = false) (h1 : ∀ v ∈ cs, v.oneCell' = true) :
    (Builtin.copy_ #[dT, sT] ty #[.slice (some ⟨b, o, none⟩) dLen dCap, .slice (some a) sLen sCap]).run P w = .ok (goInt (Nat.min sLen dLen)) (w.setCells b o cs) := by
  have hl := run_loadCells_list (P := P) w a cs hsrc
  have hst := run_storeCells_cells (P := P) b o cs 0 w (by simpa using hc) (by simpa using hf) h1
  cases hq : P.info? elem with
  | none => simp [hq] at hs
  | some i =>
    have hi : i.size = size := by simpa [hq] using hs
    simp [Builtin.copy_, run_underlying hu, Builtin.lenOf, Builtin.firstCells, sizeOf, typeInfo, hq, hi, ← hn, hl, hst]
theorem setL_spread (vs : List Value) : ∀ (cs : List Value) (o : Nat), o + vs.length ≤ cs.length → setL cs o vs = cs.take o ++ vs ++ cs.drop (o + vs.length) := by
  intro cs o h
  have h1 := setL_take vs cs o h
  have h2 : (setL cs o vs).drop (o + vs.length) = cs.drop (o + vs.length) := by
    have key : ∀ (vs cs : List Value) (o k : Nat), o + vs.length ≤ k → (setL cs o vs).drop k = cs.drop k := by
      intro vs
      induction vs with
      | nil => intro cs o k _; rfl
      | cons v vs ih =>
        intro cs o k hk
        simp only [List.length_cons] at hk
        rw [setL, ih _ _ _ (by omega), List.drop_set_of_lt (by omega)]
    exact key vs cs o _ (Nat.le_refl _)
  rw [← h1, ← h2, List.take_append_drop]
theorem own_setCells {base : Nat} {e : TypeId} {size g n c : Nat} : ∀ (vs cs : List Value) (o : Nat) (w : World), w.ownsRow base e size (.slice (some ⟨g, 0, none⟩) n c) n cs →
    (w.setCells g o vs).ownsRow base e size (.slice (some ⟨g, 0, none⟩) n c) n (setL cs o vs) ∧ w.grownBy (w.setCells g o vs) (some g)
  | [], cs, o, w, h => ⟨h, World.grownBy.refl _ _⟩
  | v :: vs, cs, o, w, h => by
    have h1 := h.stored o v
    have h2 := own_setCells vs _ (o + 1) _ h1.1
    exact ⟨h2.1, h1.2.trans h2.2⟩
theorem own_more {w : World} {base : Nat} {e : TypeId} {size g n c : Nat} {xs : List Value} (h : w.ownsRow base e size (.slice (some ⟨g, 0, none⟩) n c) n xs) {m : Nat} (hm : n + m ≤ c) :
    ∃ S : List Value, S.length = m * size ∧ w.ownsRow base e size (.slice (some ⟨g, 0, none⟩) (n + m) c) (n + m) (xs ++ S) := by
  have hl := h.1
  rcases h.2 with ⟨h', _⟩ | ⟨g', cap', cur, h', hb, hg, hnc, hcm, hcs, htake⟩
  · simp at h'
  · simp only [Value.slice.injEq, Option.some.injEq, Addr.mk.injEq, and_true, true_and] at h'
    obtain ⟨rfl, rfl⟩ := h'
    have hle : (n + m) * size ≤ c * size := Nat.mul_le_mul_right _ hm
    rw [Nat.add_mul] at hle
    refine ⟨(cur.toList.drop (n * size)).take (m * size), ?_, ?_, .inr ⟨g, c, cur, rfl, hb, hg, hm, hcm, hcs, ?_⟩⟩
    · rw [List.length_take, List.length_drop, Array.length_toList]
      omega
    · rw [List.length_append, hl, List.length_take, List.length_drop, Array.length_toList, Nat.add_mul]
      omega
    · rw [Nat.add_mul, List.take_add, htake]
theorem own_heap {w : World} {base : Nat} {e : TypeId} {size g n c : Nat} {xs : List Value} (h : w.ownsRow base e size (.slice (some ⟨g, 0, none⟩) n c) n xs) : ∃ cur : Array Value, w.heap[g]? = some (.cells cur e (0, 0)) ∧ cur.size = c * size ∧ n ≤ c ∧ c ≤ maxLen := by
  rcases h.2 with ⟨h', _⟩ | ⟨g', cap', cur, h', hb, hg, hnc, hcm, hcs, htake⟩
  · simp at h'
  · simp only [Value.slice.injEq, Option.some.injEq, Addr.mk.injEq, and_true, true_and] at h'
    obtain ⟨rfl, rfl⟩ := h'
    exact ⟨cur, hg, hcs, hnc, hcm⟩
theorem insert_list (T D S four : List Value) (i : Nat) (h4 : four.length = 4) (hT : T.length = i * 2) (hS : S.length = 4) :
    setL (setL (T ++ D ++ S) ((i + 2) * 2) D) (i * 2) four = T ++ four ++ D := by
  have e1 : setL (T ++ D ++ S) ((i + 2) * 2) D = (T ++ D ++ S).take ((i + 2) * 2) ++ D := by
    rw [setL_spread _ _ _ (by simp only [List.length_append]; omega), List.drop_of_length_le (by simp only [List.length_append]; omega), List.append_nil]
  have hl : ((T ++ D ++ S).take ((i + 2) * 2)).length = (i + 2) * 2 := by rw [List.length_take]; simp only [List.length_append]; omega
  rw [e1, setL_spread _ _ _ (by rw [List.length_append, hl]; omega), h4]
  have e2 : ((T ++ D ++ S).take ((i + 2) * 2) ++ D).take (i * 2) = T := by
    rw [List.take_append_of_le_length (by rw [hl]; omega), List.take_take, Nat.min_eq_left (by omega), List.append_assoc, List.take_append_of_le_length (by omega), List.take_of_length_le (by omega)]
  have e3 : ((T ++ D ++ S).take ((i + 2) * 2) ++ D).drop (i * 2 + 4) = D := by
    rw [List.drop_append_of_le_length (by rw [hl]; omega), List.drop_of_length_le (by rw [hl]; omega), List.nil_append]
  rw [e2, e3]
theorem insert_list2 (X T D four : List Value) (i n : Nat) (h4 : four.length = 4) (hX : X.length = (n + 2) * 2) (hT : X.take (i * 2) = T) (hD : D.length = (n - i) * 2) (hi : i ≤ n) :
    setL (setL X (i * 2) four) ((i + 2) * 2) D = T ++ four ++ D := by
  have hl : (setL X (i * 2) four).length = X.length := setL_length _ _ _
  rw [setL_spread D _ _ (by rw [hl]; omega), List.drop_of_length_le (by rw [hl]; omega), List.append_nil, setL_spread _ _ _ (by omega), hT, h4]
  congr 1
  have : T.length = i * 2 := by rw [← hT, List.length_take]; omega
  rw [List.take_append_of_le_length (by simp; omega), List.take_of_length_le (by simp; omega)]
set_option maxHeartbeats 4000000 in
set_option maxRecDepth 100000 in
/-- slices.Insert, two cells: there is room: in place. -/
theorem insert_shift (b off n c i vb : Nat) (cs vs : List Value) (w : World) (hi : i < n) (hroom : n + 2 ≤ c) (hc63 : c ≤ 9223372036854775807) (hvb : vb ≠ b)
    (hcl : cs.length = n * 2) (hvl : vs.length = 4)
    (hcs : ∀ j v, cs[j]? = some v → w.cell? ⟨b, off + j, none⟩ = some v) (hsp : ∀ j, j < (n + 2) * 2 → (w.cell? ⟨b, off + j, none⟩).isSome = true) (hfz : ∀ j, j < (n + 2) * 2 → w.frozen? ⟨b, off + j, none⟩ = false)
    (hvs : ∀ j v, vs[j]? = some v → w.cell? ⟨vb, 0 + j, none⟩ = some v) (h1c : ∀ v ∈ cs, v.oneCell' = true) (h1v : ∀ v ∈ vs, v.oneCell' = true)
    (tA tB : TypeId) (kA kB : Nat) (hsa : w.shape? vb = some (tA, kA)) (hsb : w.shape? b = some (tB, kB)) (hkB : kB ≠ 0) (hfa : w.frozen? ⟨vb, 0, none⟩ = false) (hfe : w.frozen? ⟨vb, kA, none⟩ = false) :
    Calls Try.prog 95 #[.slice (some ⟨b, off, none⟩) n c, .int .i64 i, .slice (some ⟨vb, 0, none⟩) 2 2] w fun e w' =>
      e = .returned (.slice (some ⟨b, off, none⟩) (n + 2) c) ∧ w' = (w.drew.setCells b (off + (i + 2) * 2) (cs.drop (i * 2))).setCells b (off + i * 2) vs := by
  have u24 := run_underlying Try.underlying67
  have hz2 : ¬ ((i : Int) = (n : Int)) := by omega
  have hsz : (Try.prog.info? 36).map (·.size) = some 2 := by kernel_rfl
  have hov : ∀ lb cb, (callFunc 108 #[.slice (some ⟨vb, 0, none⟩) 2 2, .slice (some ⟨b, off + (i + 2) * 2, none⟩) lb cb]).run Try.prog w = .ok (.value (.bool false)) w := fun lb cb => by
    rw [run_callFunc_extern Try.func108 (by kernel_rfl) (by kernel_rfl) (by kernel_rfl) (e := Extern.SlicesOverlaps.overlaps #[67, 67 ] #[4 ]) (by kernel_rfl),
      Lib.run_overlaps_apart w 67 4 36 Try.underlying67 2 Try.sizeOf36 ⟨vb, 0, none⟩ ⟨b, off + (i + 2) * 2, none⟩ 2 2 lb cb hvb tA tB kA kB hsa hsb hkB hfa hfe]
    rfl
  have hdl : (cs.drop (i * 2)).length = (n - i) * 2 := by rw [List.length_drop, hcl]; omega
  have mixed : Try.prog.follows .mixedOrders = true := by kernel_rfl
  have hw1 : IntKind.i64.wrap ((i : Int) + 2) = (i : Int) + 2 := by rw [IntKind.wrap_i64]; omega
  have hb1 : (0 : Int) ≤ (i : Int) + 2 := by omega
  have hin : i ≤ n := by omega
  have htn : ((i : Int) + 2).toNat = i + 2 := by omega
  have hb2 : ¬ (c = i + 2) := by omega
  have hb3 : (i : Int) ≤ (n : Int) + 2 := by omega
  have hb4 : ¬ (c = i) := by omega
  have hcp1 : ∀ ty dc sc, (Builtin.copy_ #[67, 67 ] ty #[.slice (some ⟨b, off + (i + 2) * 2, none⟩) (n - i) dc, .slice (some ⟨b, off + i * 2, none⟩) (n + 2 - i) sc]).run Try.prog w.drew = .ok (goInt (Nat.min (n + 2 - i) (n - i))) (w.drew.setCells b (off + (i + 2) * 2) (cs.drop (i * 2))) := fun ty dc sc =>
    copy_cells_sz w.drew _ _ ty 36 2 b (off + (i + 2) * 2) (n - i) dc ⟨b, off + i * 2, none⟩ (n + 2 - i) sc (cs.drop (i * 2)) Try.underlying67 hsz (by rw [hdl]; simp only [Nat.min_def]; split <;> omega)
      (fun j v hj => by rw [Addr.add_lit, Nat.add_assoc]; exact hcs (i * 2 + j) v (by rwa [List.getElem?_drop] at hj))
      (fun j hj => by rw [Nat.add_assoc]; exact hsp _ (by omega)) (fun j hj => by rw [Nat.add_assoc]; exact hfz _ (by omega)) (fun v hv => h1c v (List.mem_of_mem_drop hv))
  obtain ⟨W1, hW1⟩ : ∃ W1, W1 = w.drew.setCells b (off + (i + 2) * 2) (cs.drop (i * 2)) := ⟨_, rfl⟩
  have hsp1 : ∀ k, k < (n + 2) * 2 → (W1.cell? ⟨b, off + k, none⟩).isSome = true := fun k hk => by
    rw [hW1]
    exact isSome_setCells b _ _ _ (fun j hj => by rw [Nat.add_assoc]; exact hsp _ (by omega)) _ (hsp k hk)
  have hcp2 : ∀ (W : World), (∀ x, W.cell? x = W1.cell? x) → (∀ x, W.frozen? x = W1.frozen? x) → ∀ ty dc, (Builtin.copy_ #[67, 67 ] ty #[.slice (some ⟨b, off + i * 2, none⟩) (n + 2 - i) dc, .slice (some ⟨vb, 0, none⟩) 2 2]).run Try.prog W = .ok (goInt (Nat.min 2 (n + 2 - i))) (W.setCells b (off + i * 2) vs) := fun W hWc hWf ty dc =>
    copy_cells_sz W _ _ ty 36 2 b (off + i * 2) (n + 2 - i) dc ⟨vb, 0, none⟩ 2 2 vs Try.underlying67 hsz (by rw [hvl]; simp only [Nat.min_def]; split <;> omega)
      (fun j v hj => by
        rw [Addr.add_lit, hWc, hW1, World.cell?_setCells_out b _ _ _ _ (fun h _ => absurd h hvb)]
        exact hvs j v hj)
      (fun j hj => by rw [hWc, Nat.add_assoc]; exact hsp1 _ (by omega)) (fun j hj => by rw [hWf, hW1, World.frozen?_setCells, Nat.add_assoc]; exact hfz _ (by omega)) h1v
  rw [← hW1] at hcp1
  go_enter Try.func95, Try.ntmps95
  go_wp2_with (simp only [hov])
  go_region_law_o (refine step_copy_runI rfl _ _ 67 67 rfl _ _ (by simp [Act.eval, Act.put]) (by simp [Act.eval, Act.put]) (hcp1 _ _ _) ?_)
  go_wp2_with (at_builtin; refine wpList_copy_runI _ rfl _ _ 67 67 rfl _ _ rfl rfl (hcp2 _ (fun _ => rfl) (fun _ => rfl) _ _) ?_)
  go_ret
  first | exact ⟨rfl, rfl⟩ | exact ⟨rfl, by rw [hW1]⟩
set_option maxHeartbeats 4000000 in
set_option maxRecDepth 100000 in
/-- slices.Insert, two cells: there is no room: a new row. -/
theorem insert_grow (b off n c i vb : Nat) (cs vs : List Value) (w : World) (hi : i < n) (hnc : n ≤ c) (hroom : c < n + 2) (hbig : (n + 2) * 2 ≤ 140737488355328)
    (hcl : cs.length = n * 2) (hvl : vs.length = 4)
    (hcs : ∀ j v, cs[j]? = some v → w.cell? ⟨b, off + j, none⟩ = some v)
    (hvs : ∀ j v, vs[j]? = some v → w.cell? ⟨vb, 0 + j, none⟩ = some v) (h1c : ∀ v ∈ cs, v.oneCell' = true) (h1v : ∀ v ∈ vs, v.oneCell' = true) :
    Calls Try.prog 95 #[.slice (some ⟨b, off, none⟩) n c, .int .i64 i, .slice (some ⟨vb, 0, none⟩) 2 2] w fun e w' =>
      e = .returned (.slice (some ⟨w.heap.size, 0, none⟩) (n + 2) (grownCap w (n + 2) c 36)) ∧
      w' = (((w.alloc (.cells ((cs.take (i * 2)).toArray ++ Builtin.zeroCells (Value.agg #[.int .i8 0, .int .i8 0]).cells (n + 2 - i) ++ Builtin.zeroCells (Value.agg #[.int .i8 0, .int .i8 0]).cells (grownCap w (n + 2) c 36 - (n + 2))) 36)).drew.setCells w.heap.size (i * 2) vs).drew).setCells w.heap.size ((i + 2) * 2) (cs.drop (i * 2)) := by
  have u24 := run_underlying Try.underlying67
  have mixed : Try.prog.follows .mixedOrders = true := by kernel_rfl
  have hinf : (Try.prog.info? 36).map (fun i => (i.zero, i.size, i.bytes)) = some (some (.agg #[.int .i8 0, .int .i8 0]), 2, 2) := by kernel_rfl
  obtain ⟨i0, hi0, hzz⟩ := Option.map_eq_some_iff.1 hinf
  simp only [Prod.mk.injEq] at hzz
  obtain ⟨hz0, hzs, hzb⟩ := hzz
  clear hinf
  have hz2 : ¬ ((i : Int) = (n : Int)) := by omega
  have hz3 : (c : Int) < (n : Int) + 2 := by omega
  have hsz : (Try.prog.info? 36).map (·.size) = some 2 := by rw [hi0]; simp [hzs]
  have hbw : b < w.heap.size := block_lt_of_cell (hcs 0 _ (List.getElem?_eq_getElem (by omega)))
  have hvw : vb < w.heap.size := block_lt_of_cell (hvs 0 _ (List.getElem?_eq_getElem (by omega)))
  have hkk : (n : Int) + 2 - (i : Int) = ((n + 2 - i : Nat) : Int) := by omega
  have hik : i + (n + 2 - i) = n + 2 := by omega
  have hold : (Builtin.firstCells i0.size i (.slice (some ⟨b, off, none⟩) i c)).run Try.prog w.drew = .ok (cs.take (i * 2)).toArray w.drew := by
    rw [hzs]
    exact run_firstCells_some w.drew 2 i ⟨b, off, none⟩ i c (cs.take (i * 2)) (by rw [List.length_take]; omega) (fun j v hj => by
      rw [Addr.add_lit]
      rw [List.getElem?_take] at hj
      split at hj
      · exact hcs j v hj
      · cases hj)
  have hrz : ∀ ty, (Builtin.append_ #[67, 3 ] ty #[.slice (some ⟨b, off, none⟩) i c, .int .i64 ((n : Int) + 2 - (i : Int))]).run Try.prog w =
      .ok (.slice (some ⟨w.heap.size, 0, none⟩) (n + 2) (grownCap w (n + 2) c 36)) (w.drew.alloc (.cells ((cs.take (i * 2)).toArray ++ Builtin.zeroCells (Value.agg #[.int .i8 0, .int .i8 0]).cells (n + 2 - i) ++ Builtin.zeroCells (Value.agg #[.int .i8 0, .int .i8 0]).cells (grownCap w (n + 2) c 36 - (n + 2))) 36)) := fun ty => by
    have h := Lib.run_append_grow_zeros w 67 3 ty 36 i0 _ .i64 .i64 Try.underlying67 Try.underlying3 hi0 hz0 (some ⟨b, off, none⟩) i c (cs.take (i * 2)) hold (n + 2 - i) (by omega) (by omega) (by omega) (by omega) (by rw [hzb]; omega) (by rw [hzb, hik]; exact growslice_fits hroom hbig)
    rw [hik] at h
    rw [hkk]
    exact h
  obtain ⟨G, hG⟩ : ∃ G, G = grownCap w (n + 2) c 36 := ⟨_, rfl⟩
  obtain ⟨ROW, hROW⟩ : ∃ ROW : Array Value, ROW = (cs.take (i * 2)).toArray ++ Builtin.zeroCells (Value.agg #[.int .i8 0, .int .i8 0]).cells (n + 2 - i) ++ Builtin.zeroCells (Value.agg #[.int .i8 0, .int .i8 0]).cells (G - (n + 2)) := ⟨_, rfl⟩
  rw [← hG] at hrz ⊢
  rw [← hROW] at hrz ⊢
  have hRl : (n + 2) * 2 ≤ ROW.size := by
    rw [hROW]
    simp [Builtin.zeroCells, Value.cells]
    omega
  obtain ⟨W1, hW1⟩ : ∃ W1, W1 = w.drew.alloc (.cells ROW 36) := ⟨_, rfl⟩
  rw [← hW1] at hrz
  have hN : ∀ j, j < (n + 2) * 2 → (W1.cell? ⟨w.heap.size, j, none⟩).isSome = true := fun j hj => by
    rw [hW1, World.cell?_alloc_at (w := w.drew) ROW _ w.heap.size j rfl, Array.getElem?_eq_getElem (by omega)]; rfl
  have hNf : ∀ j, W1.frozen? ⟨w.heap.size, j, none⟩ = false := fun j => by rw [hW1]; exact World.frozen?_alloc_at (w := w.drew) ROW _ w.heap.size j rfl
  have hOb : ∀ j v, w.cell? ⟨b, j, none⟩ = some v → W1.cell? ⟨b, j, none⟩ = some v := fun j v h => by rw [hW1, World.cell?_alloc_past (w := w.drew) _ b j hbw]; exact h
  have hOv : ∀ j v, w.cell? ⟨vb, j, none⟩ = some v → W1.cell? ⟨vb, j, none⟩ = some v := fun j v h => by rw [hW1, World.cell?_alloc_past (w := w.drew) _ vb j hvw]; exact h
  have hcpA : ∀ (W : World), (∀ x, W.cell? x = W1.cell? x) → (∀ x, W.frozen? x = W1.frozen? x) → ∀ ty dc, (Builtin.copy_ #[67, 67 ] ty #[.slice (some ⟨w.heap.size, i * 2, none⟩) (n + 2 - i) dc, .slice (some ⟨vb, 0, none⟩) 2 2]).run Try.prog W = .ok (goInt (Nat.min 2 (n + 2 - i))) (W.setCells w.heap.size (i * 2) vs) := fun W hWc hWf ty dc =>
    copy_cells_sz W _ _ ty 36 2 w.heap.size (i * 2) (n + 2 - i) dc ⟨vb, 0, none⟩ 2 2 vs Try.underlying67 hsz (by rw [hvl]; simp only [Nat.min_def]; split <;> omega)
      (fun j v hj => by rw [Addr.add_lit, hWc]; exact hOv _ v (hvs j v hj))
      (fun j hj => by rw [hWc]; exact hN _ (by omega)) (fun j hj => by rw [hWf]; exact hNf _) h1v
  have hGn : n + 2 ≤ G := by rw [hG]; exact grownCap_ge w _ _ _
  have hG63 : G ≤ 9223372036854775807 := by
    have := grownCap_le_maxLen w (n + 2) c 36 (by unfold maxLen; omega)
    rw [← hG] at this
    unfold maxLen at this
    omega
  have hGi : ¬ (G = i) := by omega
  have hGim : ¬ (G = i + 2) := by omega
  have hci : ¬ (c = i) := by omega
  have hbN : b ≠ w.heap.size := by omega
  have hdl : (cs.drop (i * 2)).length = (n - i) * 2 := by rw [List.length_drop, hcl]; omega
  have hcpB : ∀ (W : World), (∀ x, W.cell? x = (W1.setCells w.heap.size (i * 2) vs).cell? x) → (∀ x, W.frozen? x = (W1.setCells w.heap.size (i * 2) vs).frozen? x) → ∀ ty dc sc, (Builtin.copy_ #[67, 67 ] ty #[.slice (some ⟨w.heap.size, (i + 2) * 2, none⟩) (n - i) dc, .slice (some ⟨b, off + i * 2, none⟩) (n - i) sc]).run Try.prog W = .ok (goInt (Nat.min (n - i) (n - i))) (W.setCells w.heap.size ((i + 2) * 2) (cs.drop (i * 2))) := fun W hWc hWf ty dc sc =>
    copy_cells_sz W _ _ ty 36 2 w.heap.size ((i + 2) * 2) (n - i) dc ⟨b, off + i * 2, none⟩ (n - i) sc (cs.drop (i * 2)) Try.underlying67 hsz (by rw [hdl]; simp only [Nat.min_def]; split <;> omega)
      (fun j v hj => by
        rw [Addr.add_lit, hWc, World.cell?_setCells_out _ _ _ _ _ (fun h _ => absurd h hbN), Nat.add_assoc]
        exact hOb _ v (hcs (i * 2 + j) v (by rwa [List.getElem?_drop] at hj)))
      (fun j hj => by rw [hWc]; exact isSome_setCells _ _ _ _ (fun t ht => hN _ (by omega)) _ (hN _ (by omega)))
      (fun j hj => by rw [hWf, World.frozen?_setCells]; exact hNf _) (fun v hv => h1c v (List.mem_of_mem_drop hv))
  subst hW1
  have hE1 : ∀ x, ((w.alloc (.cells ROW 36)).drew).cell? x = (w.drew.alloc (.cells ROW 36)).cell? x := fun x => rfl
  have hE2 : ∀ x, ((w.alloc (.cells ROW 36)).drew).frozen? x = (w.drew.alloc (.cells ROW 36)).frozen? x := fun x => rfl
  have hF1 : ∀ x, (((w.alloc (.cells ROW 36)).drew.setCells w.heap.size (i * 2) vs).drew).cell? x = ((w.drew.alloc (.cells ROW 36)).setCells w.heap.size (i * 2) vs).cell? x := fun x => rfl
  have hF2 : ∀ x, (((w.alloc (.cells ROW 36)).drew.setCells w.heap.size (i * 2) vs).drew).frozen? x = ((w.drew.alloc (.cells ROW 36)).setCells w.heap.size (i * 2) vs).frozen? x := fun x => rfl
  have hw1 : IntKind.i64.wrap ((i : Int) + 2) = (i : Int) + 2 := by rw [IntKind.wrap_i64]; omega
  have hb1 : (0 : Int) ≤ (i : Int) + 2 := by omega
  have hin : i ≤ n := by omega
  have htn : ((i : Int) + 2).toNat = i + 2 := by omega
  have hb3 : (i : Int) ≤ (n : Int) := by omega
  clear hkk hik hold hROW hG hRl
  go_enter Try.func95, Try.ntmps95
  go_wp2_with (first
    | (at_builtin; refine Lib.wpList_append_run _ rfl _ _ _ _ rfl _ _ rfl rfl _ _ (hrz _) ?_)
    | (at_builtin; refine wpList_copy_runI _ rfl _ _ 67 67 rfl _ _ rfl rfl (hcpA _ hE1 hE2 _ _) ?_)
    | (at_builtin; refine wpList_copy_runI _ rfl _ _ 67 67 rfl _ _ rfl rfl (hcpB _ (fun _ => rfl) (fun _ => rfl) _ _ _) ?_))
  go_region_law_o (refine step_copy_runI rfl _ _ 67 67 rfl (.slice (some ⟨w.heap.size, (i + 2) * 2, none⟩) (n - i) (G - (i + 2))) (.slice (some ⟨b, off + i * 2, none⟩) (n - i) (c - i)) (by simp [Act.eval, Act.put]) (by simp [Act.eval, Act.put]) (hcpB _ hF1 hF2 3 (G - (i + 2)) (c - i)) ?_)
  go_wp2
  go_ret
  exact ⟨rfl, rfl⟩
theorem insert_I (w : World) (base : Nat) (A : Option Addr) (c : Nat) (xs : List Ce) (own : w.ownsRow base 36 2 (.slice A xs.length c) xs.length (xs.flatMap Ce.enc)) (hbase : base ≤ w.heap.size) (i vb : Nat) (hi : i < xs.length) (hln : xs.length ≤ 1073741824) (p q : Ce) (base2 : Nat)
    (vown : w.ownsRow base2 36 2 (.slice (some ⟨vb, 0, none⟩) 2 2) 2 [.int .i8 p.x, .int .i8 p.y, .int .i8 q.x, .int .i8 q.y]) (hne : ∀ a, A = some a → vb ≠ a.block) :
    Calls Try.prog 95 #[.slice A xs.length c, .int .i64 i, .slice (some ⟨vb, 0, none⟩) 2 2] w fun e w' =>
      ∃ A' c', e = .returned (.slice A' (xs.length + 2) c') ∧ Below base w w' ∧ w'.ownsRow base 36 2 (.slice A' (xs.length + 2) c') (xs.length + 2) ((xs.take i ++ [p, q] ++ xs.drop i).flatMap Ce.enc) ∧ ∀ a, A = some a → w.grownBy w' (some a.block) := by
  obtain ⟨g, cap', hv, hg, hlt⟩ := own.form (by omega)
  injection hv with hv1 hv2 hv3
  subst hv1
  have hne' := hne _ rfl
  obtain ⟨cur, hcur, hcs, hnc, hcm⟩ := own_heap own
  obtain ⟨vcur, hvcur, hvsz, _, _⟩ := own_heap vown
  have hl : (xs.flatMap Ce.enc).length = xs.length * 2 := own.1
  have hcells : ∀ j v, (xs.flatMap Ce.enc)[j]? = some v → w.cell? ⟨g, 0 + j, none⟩ = some v := fun j v hj => by
    have := (List.getElem?_eq_some_iff.1 hj).1
    rw [Nat.zero_add, own.cellAt j (by omega)]
    exact hj
  have hvs : ∀ j v, ([.int .i8 p.x, .int .i8 p.y, .int .i8 q.x, .int .i8 q.y] : List Value)[j]? = some v → w.cell? ⟨vb, 0 + j, none⟩ = some v := fun j v hj => by
    have : j < 4 := (List.getElem?_eq_some_iff.1 hj).1
    rw [Nat.zero_add, vown.cellAt j (by omega)]
    exact hj
  have h1c := oneCell_flat (en := Ce.enc) (fun p u hu => by simp [Ce.enc] at hu; rcases hu with rfl | rfl <;> rfl) xs
  have h1v : ∀ v ∈ ([.int .i8 p.x, .int .i8 p.y, .int .i8 q.x, .int .i8 q.y] : List Value), v.oneCell' = true := by intro u hu; simp at hu; rcases hu with rfl | rfl | rfl | rfl <;> rfl
  have hT : ((xs.take i).flatMap Ce.enc).length = i * 2 := by rw [flatMap_len (en := Ce.enc) (n := 2) (fun _ => rfl), List.length_take]; omega
  have eT : (xs.flatMap Ce.enc).take (i * 2) = (xs.take i).flatMap Ce.enc := by
    conv => lhs; rw [← List.take_append_drop i xs, List.flatMap_append]
    rw [List.take_append_of_le_length (by omega), List.take_of_length_le (by omega)]
  have eD : (xs.flatMap Ce.enc).drop (i * 2) = (xs.drop i).flatMap Ce.enc := by
    conv => lhs; rw [← List.take_append_drop i xs, List.flatMap_append]
    rw [List.drop_append_of_le_length (by omega), List.drop_of_length_le (by omega), List.nil_append]
  have eR : (xs.take i ++ [p, q] ++ xs.drop i).flatMap Ce.enc = (xs.take i).flatMap Ce.enc ++ [.int .i8 p.x, .int .i8 p.y, .int .i8 q.x, .int .i8 q.y] ++ (xs.drop i).flatMap Ce.enc := by
    rw [List.flatMap_append, List.flatMap_append]
    rfl
  have eX : xs.flatMap Ce.enc = (xs.take i).flatMap Ce.enc ++ (xs.drop i).flatMap Ce.enc := by rw [← List.flatMap_append, List.take_append_drop]
  have hD : ((xs.drop i).flatMap Ce.enc).length = (xs.length - i) * 2 := by rw [flatMap_len (en := Ce.enc) (n := 2) (fun _ => rfl), List.length_drop]
  by_cases hroom : xs.length + 2 ≤ c
  · obtain ⟨S, hS, ownS⟩ := own_more own hroom
    refine (insert_shift g 0 xs.length c i vb (xs.flatMap Ce.enc) _ w hi hroom (by unfold maxLen at hcm; omega) hne' hl rfl hcells (fun j hj => ?_) (fun j _ => ownS.frozenAt _) hvs h1c h1v 36 36 vcur.size cur.size ?_ ?_ (by omega) (vown.frozenAt _) (vown.frozenAt _)).mono ?_
    · have h1 := ownS.1
      rw [Nat.zero_add, ownS.cellAt j hj, List.getElem?_eq_getElem (by omega)]
      rfl
    · unfold World.shape?
      rw [hvcur]
    · unfold World.shape?
      rw [hcur]
    · rintro e w' ⟨rfl, rfl⟩
      have o1 := own_setCells ((xs.flatMap Ce.enc).drop (i * 2)) _ (0 + (i + 2) * 2) _ ownS.drew
      have o2 := own_setCells [.int .i8 p.x, .int .i8 p.y, .int .i8 q.x, .int .i8 q.y] _ (0 + i * 2) _ o1.1
      have G12 := o1.2.trans o2.2
      have BB := below_own (v := .slice (some ⟨g, 0, none⟩) xs.length c) ((Below.refl base w).drew) own.drew hbase G12
      refine ⟨some ⟨g, 0, none⟩, c, rfl, BB, ?_, fun a ha => by cases ha; exact ⟨G12.os, G12.tape, G12.output, G12.size, G12.block⟩⟩
      have eC : setL (setL (xs.flatMap Ce.enc ++ S) (0 + (i + 2) * 2) ((xs.flatMap Ce.enc).drop (i * 2))) (0 + i * 2) [.int .i8 p.x, .int .i8 p.y, .int .i8 q.x, .int .i8 q.y] = (xs.take i ++ [p, q] ++ xs.drop i).flatMap Ce.enc := by
        rw [eR, ← insert_list _ _ S _ i rfl hT hS, Nat.zero_add, Nat.zero_add, eD, eX]
      rw [← eC]
      exact o2.1
  · refine (insert_grow g 0 xs.length c i vb (xs.flatMap Ce.enc) _ w hi hnc (by omega) (by omega) hl rfl hcells hvs h1c h1v).mono ?_
    rintro e w' ⟨rfl, rfl⟩
    obtain ⟨G, hG⟩ : ∃ G, G = grownCap w (xs.length + 2) c 36 := ⟨_, rfl⟩
    have hGn : xs.length + 2 ≤ G := by rw [hG]; exact grownCap_ge w _ _ _
    have hGm : G ≤ maxLen := by rw [hG]; exact grownCap_le_maxLen w (xs.length + 2) c 36 (by unfold maxLen; omega)
    rw [← hG]
    obtain ⟨ROW, hROW⟩ : ∃ ROW : Array Value, ROW = ((xs.flatMap Ce.enc).take (i * 2)).toArray ++ Builtin.zeroCells (Value.agg #[.int .i8 0, .int .i8 0]).cells (xs.length + 2 - i) ++ Builtin.zeroCells (Value.agg #[.int .i8 0, .int .i8 0]).cells (G - (xs.length + 2)) := ⟨_, rfl⟩
    rw [← hROW]
    have e1 : ((xs.flatMap Ce.enc).take (i * 2)).length = i * 2 := by rw [List.length_take, hl]; omega
    have e2 : ∀ k, (Builtin.zeroCells (Value.agg #[.int .i8 0, .int .i8 0]).cells k).size = k * 2 := fun k => by simp [Builtin.zeroCells, Value.cells]
    have hRs : ROW.size = G * 2 := by
      rw [hROW, Array.size_append, Array.size_append, List.size_toArray, e1, e2, e2]
      omega
    have hRl : ROW.toList.length = G * 2 := by rw [← hRs]; exact Array.length_toList
    have hRt : ROW.toList.take (i * 2) = (xs.take i).flatMap Ce.enc := by
      obtain ⟨Z, hZ⟩ : ∃ Z, ROW.toList = (xs.flatMap Ce.enc).take (i * 2) ++ Z := ⟨_, by rw [hROW, Array.toList_append, Array.toList_append, List.append_assoc]⟩
      rw [hZ, List.take_append_of_le_length (by rw [e1]; exact Nat.le_refl _), List.take_of_length_le (by rw [e1]; exact Nat.le_refl _), eT]
    clear hROW hG
    have o0 : (w.alloc (.cells ROW 36)).ownsRow w.heap.size 36 2 (.slice (some ⟨w.heap.size, 0, none⟩) (xs.length + 2) G) (xs.length + 2) (ROW.toList.take ((xs.length + 2) * 2)) :=
      ⟨by rw [List.length_take, hRl]; omega, .inr ⟨w.heap.size, G, ROW, rfl, Nat.le_refl _, heap_alloc_new w _, hGn, hGm, hRs, rfl⟩⟩
    have o1 := own_setCells [.int .i8 p.x, .int .i8 p.y, .int .i8 q.x, .int .i8 q.y] _ (i * 2) _ o0.drew
    have o2 := own_setCells ((xs.flatMap Ce.enc).drop (i * 2)) _ ((i + 2) * 2) _ o1.1.drew
    have B1 := below_own (v := .slice (some ⟨w.heap.size, 0, none⟩) (xs.length + 2) G) (((Below.refl w.heap.size w).alloc (Nat.le_refl _) (.cells ROW 36)).drew) o0.drew (by simp) o1.2
    have hz := B1.size
    have B2 := below_own (v := .slice (some ⟨w.heap.size, 0, none⟩) (xs.length + 2) G) B1.drew o1.1.drew (by simp; omega) o2.2
    refine ⟨some ⟨w.heap.size, 0, none⟩, G, rfl, B2.mono hbase, ?_, fun a _ => ⟨B2.os, B2.tape, B2.output, B2.size, fun i hi _ => B2.block i hi⟩⟩
    have eL := insert_list2 (ROW.toList.take ((xs.length + 2) * 2)) ((xs.take i).flatMap Ce.enc) ((xs.drop i).flatMap Ce.enc) [.int .i8 p.x, .int .i8 p.y, .int .i8 q.x, .int .i8 q.y] i (xs.length) rfl (by rw [List.length_take, hRl]; omega) (by rw [List.take_take, Nat.min_eq_left (by omega)]; exact hRt) hD (by omega)
    rw [eR, ← eL, ← eD]
    exact own_low o2.1 hbase
end Go.Proofs.Ytgkgklgeobbmlaa
