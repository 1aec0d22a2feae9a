/-
  Hits in order: the comparison of two hits, and the library's sort at a row of hits.
  The library's sort at a row of hits: the row holds a permutation, in the order of ticks, pieces, sides and causes.
  Conditions: the row is short.
-/
import Derived.Test.YthhfndifcdiomaaGreatQueI
import Derived.Deep.RegionHeld3
import Derived.Sort.Grow
import Derived.Test.YthhfndifcdiomaaGreatLayR
import Derived.Shelf.SlSortCmp.WholeK
namespace Go.Proofs.YthhfndifcdiomaaGreat
open Go.RowKit
set_option linter.unusedSimpArgs false
set_option linter.unusedVariables false
open Go.RowKit Go.Sort

def orI : List Int → Int
  | [] => 0
  | x :: r => if x = 0 then orI r else x
def cmpI (x y : Int) : Int := if x < y then -1 else if y < x then 1 else 0
def hitC (p q : Q4) : Int := orI [cmpI p.a q.a, cmpI p.b q.b, cmpI p.c q.c, cmpI p.d q.d]
theorem isNaN_I (x : Int) (w : World) : Calls Tryz.prog 151 #[.int .i64 x] w fun e w' => e = .returned (.bool false) ∧ w = w' := by
  go_enter Tryz.func151, Tryz.ntmps151
  go_wp2_with fail
  go_ret
  exact ⟨rfl, rfl⟩
theorem compare_I (x y : Int) (w : World) : Calls Tryz.prog 148 #[.int .i64 x, .int .i64 y] w fun e w' => e = .returned (.int .i64 (cmpI x y)) ∧ w = w' := by
  have HN := hid (fun z W => isNaN_I z W)
  have HG := hid (show cmpI x y = if x < y then -1 else if y < x then 1 else 0 from rfl)
  by_cases h1 : x < y
  · have e1 : decide (x < y) = true := decide_eq_true h1
    rw [if_pos h1] at HG
    go_enter Tryz.func148, Tryz.ntmps148
    go_wp2_with (go_at_call 151; refine (HN.out _ _).mono ?_; rintro e w' ⟨rfl, rfl⟩)
    go_ret
    exact ⟨ret_int HG.out.symm, rfl⟩
  · have e1 : decide (x < y) = false := decide_eq_false h1
    rw [if_neg h1] at HG
    by_cases h2 : y < x
    · have e2 : decide (x > y) = true := decide_eq_true h2
      rw [if_pos h2] at HG
      go_enter Tryz.func148, Tryz.ntmps148
      go_wp2_with (go_at_call 151; refine (HN.out _ _).mono ?_; rintro e w' ⟨rfl, rfl⟩)
      go_ret
      exact ⟨ret_int HG.out.symm, rfl⟩
    · have e2 : decide (x > y) = false := decide_eq_false h2
      rw [if_neg h2] at HG
      go_enter Tryz.func148, Tryz.ntmps148
      go_wp2_with (go_at_call 151; refine (HN.out _ _).mono ?_; rintro e w' ⟨rfl, rfl⟩)
      go_ret
      exact ⟨ret_int HG.out.symm, rfl⟩
theorem or_I (g c : Nat) (l : List Int) (w : World) (hl : l.length ≤ 100) (hc : ∀ j x, l[j]? = some x → w.cell? ⟨g, j, none⟩ = some (.int .i64 x)) :
    Calls Tryz.prog 147 #[.slice (some ⟨g, 0, none⟩) l.length c] w fun e w' => e = .returned (.int .i64 (orI l)) ∧ w = w' := by
  have HC := hid hc
  clear hc
  go_enter Tryz.func147, Tryz.ntmps147
  go_wp2_with fail
  go_loopw [8] (fun iv wr => ∃ k : Nat, k ≤ l.length ∧ iv = .int .i64 k ∧ orI l = orI (l.drop k) ∧ wr = w) (fun iv _ => l.length - (intOf iv).toNat)
  case atStart => exact ⟨0, Nat.zero_le _, rfl, rfl, rfl⟩
  case round =>
    obtain ⟨k, hk, rfl, ho, rfl⟩ := hrel
    by_cases hlt : k < l.length
    · have hd : decide ((k : Int) < (l.length : Int)) = true := by rw [decide_eq_true_iff]; omega
      have hki : (k : Int) < (l.length : Int) := by omega
      have e1 : l[k]? = some l[k] := List.getElem?_eq_getElem hlt
      have c0 := HC.out k _ e1
      have hdr : l.drop k = l[k] :: l.drop (k + 1) := List.drop_eq_getElem_cons hlt
      rw [hdr] at ho
      generalize l[k] = x at *
      have HO := hid ho
      clear ho hdr e1
      by_cases hx : x = 0
      · have e2 : (x == 0) = true := by simp [hx]
        have HN := hid (HO.out.trans (show orI (x :: l.drop (k + 1)) = orI (l.drop (k + 1)) by rw [orI, if_pos hx]))
        clear hx
        go_wp2_with fail
        exact ⟨⟨k + 1, by omega, by go_num, HN.out, trivial⟩, by simp [intOf]; omega⟩
      · have e2 : (x == 0) = false := by simp [hx]
        have HN := hid (HO.out.trans (show orI (x :: l.drop (k + 1)) = x by rw [orI, if_neg hx]))
        go_wp2_with fail
        go_ret
        exact ⟨ret_int HN.out.symm, rfl⟩
    · obtain rfl : k = l.length := by omega
      have hd : decide ((l.length : Int) < (l.length : Int)) = false := by rw [decide_eq_false_iff_not]; omega
      have HN := hid (show orI l = 0 by rw [ho, List.drop_length]; rfl)
      clear ho
      go_wp2_with fail
      go_ret
      exact ⟨ret_int HN.out.symm, rfl⟩
set_option maxHeartbeats 1000000 in
theorem hitOrder_I (p q : Q4) (w : World) : Calls Tryz.prog 137 #[.agg #[.int .i64 p.a, .int .i64 p.b, .int .i64 p.c, .int .i64 p.d], .agg #[.int .i64 q.a, .int .i64 q.b, .int .i64 q.c, .int .i64 q.d]] w fun e w' => e = .returned (.int .i64 (hitC p q)) ∧ ∃ n os', w' = Go.Sort.grow (w.drewN n) os' := by
  have HC := hid (fun x y W => compare_I x y W)
  go_enter Tryz.func137, Tryz.ntmps137
  go_upto_region 1 with fail
  obtain ⟨W1, hW1⟩ : ∃ W, W = (w.alloc (.cells #[.int .i64 p.a, .int .i64 p.b, .int .i64 p.c, .int .i64 p.d] 161)).alloc (.cells #[.int .i64 q.a, .int .i64 q.b, .int .i64 q.c, .int .i64 q.d] 161) := ⟨_, rfl⟩
  rw [← hW1]
  have h0 : (fun W : World => W.cell? ⟨w.heap.size, 0, none⟩ = some (.int .i64 p.a) ∧ W.cell? ⟨w.heap.size, 1, none⟩ = some (.int .i64 p.b) ∧ W.cell? ⟨w.heap.size, 2, none⟩ = some (.int .i64 p.c) ∧ W.cell? ⟨w.heap.size, 3, none⟩ = some (.int .i64 p.d) ∧ W.cell? ⟨w.heap.size + 1, 0, none⟩ = some (.int .i64 q.a) ∧ W.cell? ⟨w.heap.size + 1, 1, none⟩ = some (.int .i64 q.b) ∧ W.cell? ⟨w.heap.size + 1, 2, none⟩ = some (.int .i64 q.c) ∧ W.cell? ⟨w.heap.size + 1, 3, none⟩ = some (.int .i64 q.d)) W1.drew := by rw [hW1]; simp [go_sem]
  have h9 : ∀ o, (fun W : World => W.cell? ⟨w.heap.size, 0, none⟩ = some (.int .i64 p.a) ∧ W.cell? ⟨w.heap.size, 1, none⟩ = some (.int .i64 p.b) ∧ W.cell? ⟨w.heap.size, 2, none⟩ = some (.int .i64 p.c) ∧ W.cell? ⟨w.heap.size, 3, none⟩ = some (.int .i64 p.d) ∧ W.cell? ⟨w.heap.size + 1, 0, none⟩ = some (.int .i64 q.a) ∧ W.cell? ⟨w.heap.size + 1, 1, none⟩ = some (.int .i64 q.b) ∧ W.cell? ⟨w.heap.size + 1, 2, none⟩ = some (.int .i64 q.c) ∧ W.cell? ⟨w.heap.size + 1, 3, none⟩ = some (.int .i64 q.d)) ((W1.alloc o).drew) := fun o => by rw [hW1]; simp [go_sem]
  have HOr := hid (fun X : World => or_I X.heap.size 4 [cmpI p.a q.a, cmpI p.b q.b, cmpI p.c q.c, cmpI p.d q.d] ((X.alloc (.cells #[.int .i64 (cmpI p.a q.a), .int .i64 (cmpI p.b q.b), .int .i64 (cmpI p.c q.c), .int .i64 (cmpI p.d q.d)] 3)).drew) (by simp) (fun j x hx => by
    have hj : j < 4 := (List.getElem?_eq_some_iff.1 hx).1
    have : j = 0 ∨ j = 1 ∨ j = 2 ∨ j = 3 := by omega
    rcases this with rfl | rfl | rfl | rfl <;> (cases hx; simp [go_sem])))
  have HW1 := hid hW1
  clear hW1
  go_region_held3 (fun W => W.cell? ⟨w.heap.size, 0, none⟩ = some (.int .i64 p.a) ∧ W.cell? ⟨w.heap.size, 1, none⟩ = some (.int .i64 p.b) ∧ W.cell? ⟨w.heap.size, 2, none⟩ = some (.int .i64 p.c) ∧ W.cell? ⟨w.heap.size, 3, none⟩ = some (.int .i64 p.d) ∧ W.cell? ⟨w.heap.size + 1, 0, none⟩ = some (.int .i64 q.a) ∧ W.cell? ⟨w.heap.size + 1, 1, none⟩ = some (.int .i64 q.b) ∧ W.cell? ⟨w.heap.size + 1, 2, none⟩ = some (.int .i64 q.c) ∧ W.cell? ⟨w.heap.size + 1, 3, none⟩ = some (.int .i64 q.d))
    (first | exact h0 | with_reducible assumption | exact h9 _)
    (first | (go_at_call 148; refine (HC.out _ _ _).mono ?_; rintro e w' ⟨rfl, rfl⟩) | (go_at_call 147; refine (HOr.out _).mono ?_; rintro e w' ⟨rfl, rfl⟩))
  go_wp2_with fail
  go_ret
  refine ⟨rfl, 1, #[.cells #[.int .i64 p.a, .int .i64 p.b, .int .i64 p.c, .int .i64 p.d] 161, .cells #[.int .i64 q.a, .int .i64 q.b, .int .i64 q.c, .int .i64 q.d] 161, .cells #[.int .i64 (cmpI p.a q.a), .int .i64 (cmpI p.b q.b), .int .i64 (cmpI p.c q.c), .int .i64 (cmpI p.d q.d)] 3 ], ?_⟩
  rw [HW1.out, Go.Sort.alloc_eq_grow, Go.Sort.alloc_eq_grow, Go.Sort.alloc_eq_grow, Go.Sort.grow_grow, Go.Sort.grow_grow]
  rfl
instance : Inhabited Q4 := ⟨⟨0, 0, 0, 0⟩⟩
theorem cmp_cases (x y : Int) : (x < y ∧ cmpI x y = -1) ∨ (x = y ∧ cmpI x y = 0) ∨ (y < x ∧ cmpI x y = 1) := by
  unfold cmpI
  split
  · exact .inl ⟨by assumption, rfl⟩
  · split
    · exact .inr (.inr ⟨by assumption, rfl⟩)
    · exact .inr (.inl ⟨by omega, rfl⟩)
theorem hit_lt (p q : Q4) : hitC p q < 0 ↔ ltQ p q := by
  unfold hitC ltQ orI orI orI orI orI
  rcases cmp_cases p.a q.a with ⟨a1, a2⟩ | ⟨a1, a2⟩ | ⟨a1, a2⟩ <;> rw [a2]
  · rw [if_neg (by omega)]; omega
  · rw [if_pos rfl]
    rcases cmp_cases p.b q.b with ⟨b1, b2⟩ | ⟨b1, b2⟩ | ⟨b1, b2⟩ <;> rw [b2]
    · rw [if_neg (by omega)]; omega
    · rw [if_pos rfl]
      rcases cmp_cases p.c q.c with ⟨c1, c2⟩ | ⟨c1, c2⟩ | ⟨c1, c2⟩ <;> rw [c2]
      · rw [if_neg (by omega)]; omega
      · rw [if_pos rfl]
        rcases cmp_cases p.d q.d with ⟨d1, d2⟩ | ⟨d1, d2⟩ | ⟨d1, d2⟩ <;> rw [d2]
        · rw [if_neg (by omega)]; omega
        · rw [if_pos rfl]; omega
        · rw [if_neg (by omega)]; omega
      · rw [if_neg (by omega)]; omega
    · rw [if_neg (by omega)]; omega
  · rw [if_neg (by omega)]; omega
theorem hit_ltf (p q : Q4) : ltOf hitC p q = false ↔ ¬ ltQ p q := by
  unfold ltOf
  rw [decide_eq_false_iff_not, hit_lt]
theorem hit_ltt (p q : Q4) : ltOf hitC p q = true ↔ ltQ p q := by
  unfold ltOf
  rw [decide_eq_true_iff, hit_lt]
theorem hit_swo : SWO (ltOf hitC) where
  irrefl x := by rw [hit_ltf]; unfold ltQ; omega
  trans x y z h1 h2 := by rw [hit_ltt] at *; unfold ltQ at *; omega
  ntrans x y z h1 h2 := by rw [hit_ltf] at *; unfold ltQ at *; omega
theorem hit_cmpLays (blk off size : Nat) (w : World) : CmpLays Tryz.prog 137 #[] Q4.e64 4 hitC blk off size w :=
  fun _ _ _ _ x y => hitOrder_I x y _
theorem flat_get (l : List Q4) : ∀ t, t < l.length * 4 → (l.flatMap Q4.e64)[t]? = some ((Q4.e64 (l.toArray)[t / 4]!)[t % 4]!) := by
  induction l with
  | nil => intro t ht; simp at ht
  | cons x r ih =>
    intro t ht
    simp only [List.length_cons] at ht
    rw [List.flatMap_cons]
    have hx : (Q4.e64 x).length = 4 := rfl
    by_cases h : t < 4
    · rw [List.getElem?_append_left (by omega)]
      have e : t / 4 = 0 := by omega
      have e2 : t % 4 = t := by omega
      rw [e, e2]
      have : t = 0 ∨ t = 1 ∨ t = 2 ∨ t = 3 := by omega
      rcases this with rfl | rfl | rfl | rfl <;> rfl
    · rw [List.getElem?_append_right (by omega), hx, ih (t - 4) (by omega)]
      have e : t / 4 = (t - 4) / 4 + 1 := by omega
      have e2 : t % 4 = (t - 4) % 4 := by omega
      rw [e, e2]
      congr 3
      simp
theorem flatK_list (l : List Q4) : (flatK Q4.e64 4 l.toArray).toList = l.flatMap Q4.e64 := by
  apply List.ext_getElem?
  intro t
  have hl : (l.flatMap Q4.e64).length = l.length * 4 := by
    induction l with
    | nil => rfl
    | cons x r ih => rw [List.flatMap_cons, List.length_append, ih]; simp [Q4.e64]; omega
  by_cases h : t < l.length * 4
  · rw [flat_get l t h, Array.getElem?_toList, Array.getElem?_eq_getElem (by simpa using h), ← getElem!_pos (flatK Q4.e64 4 l.toArray) t (by simpa using h), get_flatK _ _ _ _ (by simpa using h)]
  · rw [List.getElem?_eq_none (by simp; omega), List.getElem?_eq_none (by omega)]
theorem holds_row {w : World} {base g n cap : Nat} {e : TypeId} {zs : List Q4} (h : w.ownsRow base e 4 (.slice (some ⟨g, 0, none⟩) n cap) n (zs.flatMap Q4.e64)) (hn : zs.length = n) : HoldsK Q4.e64 4 w g 0 zs.toArray := by
  intro j hj
  have hj' : j < zs.length * 4 := by simpa using hj
  rw [Nat.zero_add]
  refine ⟨?_, h.frozenAt j⟩
  rw [h.cellAt j (by omega), flat_get zs j hj', get_flatK _ _ _ _ (by simpa using hj')]
  rfl
theorem row_sorted {w : World} {base g n cap m : Nat} {e : TypeId} {os : Array Obj} {zs ys : List Q4} (h : w.ownsRow base e 4 (.slice (some ⟨g, 0, none⟩) n cap) n (zs.flatMap Q4.e64)) (hy : ys.length = n) :
    (sortWorldK Q4.e64 4 w g 0 m ys.toArray os).ownsRow base e 4 (.slice (some ⟨g, 0, none⟩) n cap) n (ys.flatMap Q4.e64) ∧ w.grownBy (sortWorldK Q4.e64 4 w g 0 m ys.toArray os) (some g) := by
  rcases h.2 with ⟨e0, _⟩ | ⟨g', cap', cur, e0, hb, hg, hn, hm, hs, ht⟩
  · cases e0
  · injection e0 with e1 _ e3
    injection e1 with e1
    injection e1 with e1
    subst e1; subst e3
    have hlt : g < w.heap.size := (Array.getElem?_eq_some_iff.1 hg).1
    have hfl : (ys.flatMap Q4.e64).length = n * 4 := by rw [← flatK_list, Array.length_toList, size_flatK]; simp [hy]
    refine ⟨⟨hfl, .inr ⟨g, cap, putCells id 0 (flatK Q4.e64 4 ys.toArray) cur, rfl, hb, ?_, hn, hm, by simpa [putCells] using hs, ?_⟩⟩, ⟨rfl, rfl, rfl, by unfold sortWorldK; simp [putRowK, putRow, mapBlock, Sort.ahead], fun k hk hne => ?_⟩⟩
    · unfold sortWorldK putRowK
      rw [heap_grow_old _ _ (by simpa [putRow, mapBlock, Sort.ahead] using hlt)]
      simp [putRow, mapBlock, Sort.ahead, Array.getElem?_modify, hg, onCells]
    · apply List.ext_getElem?
      intro j
      rw [List.getElem?_take]
      by_cases hj : j < n * 4
      · have hjc : j < cur.size := by rw [hs]; omega
        rw [if_pos hj, Array.getElem?_toList]
        unfold putCells
        rw [Array.getElem?_mapIdx, Array.getElem?_eq_getElem hjc, Option.map_some, if_pos (by simp [hy]; omega), Nat.sub_zero, flat_get ys j (by omega), get_flatK _ _ _ _ (by simp [hy]; omega)]
        rfl
      · rw [if_neg hj, List.getElem?_eq_none (by omega)]
    · unfold sortWorldK putRowK
      rw [heap_grow_old _ _ (by simpa [putRow, mapBlock, Sort.ahead] using hk)]
      have : g ≠ k := fun e => hne (by rw [e])
      simp [putRow, mapBlock, Sort.ahead, Array.getElem?_modify, this]
/-- slices.SortFunc(now, hitOrder). -/
theorem sort_I (w : World) (base g n cap : Nat) (zs : List Q4) (h : w.ownsRow base 161 4 (.slice (some ⟨g, 0, none⟩) n cap) n (zs.flatMap Q4.e64)) (hn : zs.length = n) (hsm : n ≤ 1000000) :
    Calls Tryz.prog 136 #[.slice (some ⟨g, 0, none⟩) n cap, .func (.func 137) #[] #[]] w fun e w' => e = .returned (.tuple #[]) ∧ ∃ ys : List Q4, ys.Perm zs ∧ ys.length = n ∧ (∀ (i j : Nat) (p q : Q4), i < j → ys[i]? = some p → ys[j]? = some q → ¬ ltQ q p) ∧
      w'.ownsRow base 161 4 (.slice (some ⟨g, 0, none⟩) n cap) n (ys.flatMap Q4.e64) ∧ w.grownBy w' (some g) := by
  have eg : ∀ args w, (callFunc 137 args).run Tryz.prog w = .ok (.enter 137 args) w := enters_of Tryz.func137 (by kernel_rfl) rfl
  have hlt := (h.lt g rfl).2
  have hcon := AnyQ.slices_SortFunc Tryz.sortHit 4 Tryz.isAgg161 Tryz.sizeOf161 Q4.e64 (fun _ => rfl) (fun x v hv => by simp [Q4.e64] at hv; rcases hv with rfl | rfl | rfl | rfl <;> rfl) hitC hit_swo 137 #[] g 0 cap zs.toArray w eg (hit_cmpLays g 0 zs.toArray.size w) (holds_row h hn) hlt (by simp; omega)
  have hsz : zs.toArray.size = n := by simp [hn]
  rw [hsz] at hcon
  refine hcon.mono ?_
  rintro e w' ⟨rfl, d', m, os, hp, hs, rfl⟩
  have hl : d'.toList.length = n := by rw [Array.length_toList, hp.1, hsz]
  have hR := row_sorted (m := m) (os := os) (ys := d'.toList) h hl
  rw [Array.toArray_toList] at hR
  refine ⟨rfl, d'.toList, ?_, hl, fun i j p q hij hi hj => ?_, hR.1, hR.2⟩
  · have h3 := hp.2.2
    have e1 : d'.extract 0 n = d' := by rw [← hsz, ← hp.1]; simp
    have e2 : zs.toArray.extract 0 n = zs.toArray := by rw [← hsz]; simp
    rw [e1, e2] at h3
    exact h3
  · rw [← hit_ltf]
    have hj2 : j < n := by rw [← hl]; exact (List.getElem?_eq_some_iff.1 hj).1
    have := hs i j (Nat.zero_le _) hij hj2
    rw [getElem!_pos d' j (by rw [hp.1, hsz]; exact hj2), getElem!_pos d' i (by rw [hp.1, hsz]; omega)] at this
    rw [Array.getElem?_toList, Array.getElem?_eq_getElem (by rw [hp.1, hsz]; omega)] at hi hj
    cases hi
    cases hj
    exact this
end Go.Proofs.YthhfndifcdiomaaGreat
