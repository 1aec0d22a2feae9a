/-
  Rows of ticks, the program's: a row without hits; the least tick of four; whether a hit comes before; whether two rows are equal.
  Conditions: at most 200 pieces.
-/
import Derived.Test.YtnabedhhflfepaaStage2
import Derived.Test.YtnabedhhflfepaaCopySz
import Derived.Laws.IdiomCopy
import Derived.Laws.Bits64b
import Derived.Lib.LazyBuf
namespace Go.Proofs.Ytnabedhhflfepaa
open Go.RowKit
set_option linter.unusedSimpArgs false
set_option linter.unusedVariables false

/-- A row of ticks: four to a piece; 'big' where there is none. -/
structure TuA (w : World) (g n : Nat) (E : Nat → Nat) : Prop where
  lt : g < w.heap.size
  c : ∀ i s, i < n → s < 4 → w.cell? ⟨g, i * 4 + s, none⟩ = some (.int .i64 (E (4 * i + s) : Int))
theorem TuA.below {w w1 : World} {g n B : Nat} {E : Nat → Nat} (h : TuA w g n E) (hb : Below B w w1) (hB : g < B) : TuA w1 g n E :=
  ⟨Nat.lt_of_lt_of_le h.lt hb.size, fun i s hi hs => (hb.cell (p := ⟨g, _, none⟩) hB).trans (h.c i s hi hs)⟩
theorem TuA.kept {w w1 : World} {g n : Nat} {E : Nat → Nat} {r : Option Nat} (h : TuA w g n E) (hg : w.grownBy w1 r) (hne : some g ≠ r) : TuA w1 g n E :=
  ⟨Nat.lt_of_lt_of_le h.lt hg.size, fun i s hi hs => (hg.cell_far ⟨g, _, none⟩ h.lt hne).trans (h.c i s hi hs)⟩
theorem TuA.congr {w : World} {g n : Nat} {E E' : Nat → Nat} (h : TuA w g n E) (e : ∀ y, y < 4 * n → E y = E' y) : TuA w g n E' :=
  ⟨h.lt, fun i s hi hs => by rw [← e _ (by omega)]; exact h.c i s hi hs⟩
theorem TuA.set {w : World} {g n : Nat} {E : Nat → Nat} (h : TuA w g n E) {i s : Nat} (hi : i < n) (hs : s < 4) (v : Nat) : TuA (w.setCell ⟨g, i * 4 + s, none⟩ (.int .i64 (v : Int))) g n (upd E (4 * i + s) v) := by
  refine ⟨by simpa using h.lt, fun j k hj hk => ?_⟩
  by_cases e : j = i ∧ k = s
  · obtain ⟨rfl, rfl⟩ := e
    rw [upd_at]
    exact World.cell?_setCell_same _ _ _ (h.c j k hj hk)
  · rw [upd_ne _ _ (by omega), World.cell?_setCell_other _ _ _ _ (by intro x; simp only [Addr.mk.injEq] at x; omega)]
    exact h.c j k hj hk
theorem mask64 {x : Int} (h0 : 0 ≤ x) (h1 : x ≤ 1000) : bits .and .u64 x 4294967295 = x := by
  obtain ⟨n, rfl⟩ : ∃ n : Nat, x = n := ⟨x.toNat, by omega⟩
  have h := bits_and_u64_nat n 4294967295 (by omega) (by omega)
  have e : n &&& 4294967295 = n % 4294967296 := Nat.and_two_pow_sub_one_eq_mod n 32
  rw [e, Nat.mod_eq_of_lt (by omega)] at h
  exact h
theorem mul64_I (y : Int) (w : World) (h0 : 0 ≤ y) (h1 : y ≤ 1000) :
    Calls Try.prog 98 #[.int .u64 1, .int .u64 y] w fun e w' => e = .returned (.tuple #[.int .u64 0, .int .u64 y]) ∧ w = w' := by
  have hm := mask64 h0 h1
  have hd : y / 4294967296 = 0 := by omega
  have hw : IntKind.u64.wrap y = y := by rw [IntKind.wrap_u64]; omega
  have hw0 : IntKind.u64.wrap 0 = 0 := by decide
  have m1 : bits BinOp.and IntKind.u64 1 4294967295 = 1 := by decide
  have m0 : bits BinOp.and IntKind.u64 0 4294967295 = 0 := by decide
  go_enter Try.func98, Try.ntmps98
  go_wp2_with fail
  refine bodyPost_ret (v := .tuple #[.int .u64 0, .int .u64 y]) (by simp [results, Try.results98, go_sem, hm, hd, hw, hw0, m1, m0]) rfl ⟨rfl, rfl⟩
theorem mul_I (y : Int) (w : World) (h0 : 0 ≤ y) (h1 : y ≤ 1000) :
    Calls Try.prog 95 #[.int .u64 1, .int .u64 y] w fun e w' => e = .returned (.tuple #[.int .u64 0, .int .u64 y]) ∧ w = w' := by
  have hw : IntKind.u64.wrap y = y := by rw [IntKind.wrap_u64]; omega
  have HM := hid (fun W => mul64_I y W h0 h1)
  go_enter Try.func95, Try.ntmps95
  go_wp2_with (go_at_call 98; refine (HM.out _).mono ?_; rintro e w' ⟨rfl, rfl⟩)
  refine bodyPost_ret (v := .tuple #[.int .u64 0, .int .u64 y]) (by simp [results, Try.results95, go_sem, hw]) rfl ⟨rfl, rfl⟩
/-- The first m pieces' ticks are laid, the others are zeros. -/
structure Rep (w : World) (g n m : Nat) : Prop where
  lt : g < w.heap.size
  c : ∀ j, j < n * 4 → w.cell? ⟨g, j, none⟩ = some (.int .i64 (if j < m * 4 then 1099511627776 else 0))
  f : Fz w g
theorem Rep.step {w : World} {g n m k : Nat} (h : Rep w g n m) (hk : m + k ≤ n) : Rep (w.setCells g (m * 4) (List.replicate (k * 4) (.int .i64 1099511627776))) g n (m + k) := by
  have hs : ∀ j, j < (List.replicate (k * 4) (Value.int .i64 1099511627776)).length → (w.cell? ⟨g, m * 4 + j, none⟩).isSome = true := fun j hj => by
    rw [List.length_replicate] at hj
    rw [h.c _ (by omega)]
    rfl
  refine ⟨?_, fun j hj => ?_, fun j => ?_⟩
  · exact Nat.lt_of_lt_of_le h.lt (RowKit.Below.size (below_setCells (Nat.zero_le _) _ _ _ (Below.refl 0 w)))
  · by_cases h1 : m * 4 ≤ j ∧ j < (m + k) * 4
    · obtain ⟨i, hi⟩ : ∃ i, j = m * 4 + i := ⟨j - m * 4, by omega⟩
      subst hi
      have := World.cell?_setCells_in g (List.replicate (k * 4) (Value.int .i64 1099511627776)) (m * 4) w hs i (by rw [List.length_replicate]; omega)
      rw [this, if_pos h1.2]
      simp
    · rw [World.cell?_setCells_out g _ _ _ ⟨g, j, none⟩ (fun _ _ => by rw [List.length_replicate]; dsimp only; omega), h.c j hj]
      by_cases h2 : j < m * 4
      · rw [if_pos h2, if_pos (by omega)]
      · rw [if_neg h2, if_neg (by omega)]
  · rw [World.frozen?_setCells]
    exact h.f j
theorem Rep.full {w : World} {g n : Nat} (h : Rep w g n n) : TuA w g n (fun _ => big) :=
  ⟨h.lt, fun i s hi hs => by rw [h.c _ (by omega), if_pos (by omega)]; rfl⟩
theorem rep_made (W : World) (n : Nat) : Rep (W.alloc (.cells (madeCells #[.int .i64 0, .int .i64 0, .int .i64 0, .int .i64 0] (n * 4)) 134)) W.heap.size n 0 := by
  refine ⟨by simp, fun j hj => ?_, fz_made _ _ _⟩
  rw [World.cell?_alloc_new, if_neg (by omega)]
  unfold madeCells
  have hz : ∀ k, (#[.int .i64 0, .int .i64 0, .int .i64 0, .int .i64 0] : Array Value)[k % 4]! = .int .i64 0 := by
    intro k
    have : k % 4 = 0 ∨ k % 4 = 1 ∨ k % 4 = 2 ∨ k % 4 = 3 := by omega
    rcases this with h | h | h | h <;> rw [h] <;> rfl
  show ((Array.range (n * 4)).map _)[j]? = _
  rw [Array.getElem?_map, Array.getElem?_eq_getElem (by simpa using hj)]
  simp only [Array.getElem_range, Option.map_some]
  exact congrArg some (hz j)
set_option maxRecDepth 100000 in
set_option maxHeartbeats 2000000 in
theorem repeat_I (b n : Nat) (w : World) (hn : n ≤ 200) (hc : ∀ j, j < 4 → w.cell? ⟨b, j, none⟩ = some (.int .i64 1099511627776)) :
    Calls Try.prog 83 #[.slice (some ⟨b, 0, none⟩) 1 1, .int .i64 n] w fun e w' => ∃ g c, e = .returned (.slice (some ⟨g, 0, none⟩) n c) ∧ Below w.heap.size w w' ∧ w.heap.size ≤ g ∧ TuA w' g n (fun _ => big) ∧ Fz w' g := by
  have HM := hid (fun W => mul_I n W (by omega) (by omega))
  have hmk := make_any (P := Try.prog) 125 134 (.agg #[.int .i64 0, .int .i64 0, .int .i64 0, .int .i64 0]) 4 32 Try.underlying125 (by kernel_rfl) n (by omega) (by omega)
  have hwu : IntKind.u64.wrap (n : Int) = n := by rw [IntKind.wrap_u64]; omega
  have hwi : IntKind.i64.wrap (n : Int) = n := IntWalk.i64_in _ (by omega)
  have hneg : decide ((n : Int) < 0) = false := by rw [decide_eq_false_iff_not]; omega
  have hbig : decide ((n : Int) > 9223372036854775807) = false := by rw [decide_eq_false_iff_not]; omega
  obtain ⟨W0, hW0⟩ : ∃ W, W = w.alloc (.cells (madeCells #[.int .i64 0, .int .i64 0, .int .i64 0, .int .i64 0] (n * 4)) 134) := ⟨_, rfl⟩
  have B0 : Below w.heap.size w W0 := by rw [hW0]; exact (Below.refl _ _).alloc (Nat.le_refl _) _
  have R0 : Rep W0 w.heap.size n 0 := by rw [hW0]; exact rep_made w n
  have hsz : (Try.prog.info? 134).map (·.size) = some 4 := by kernel_rfl
  obtain ⟨k0, hk0⟩ : ∃ k0, Nat.min 1 n = k0 := ⟨_, rfl⟩
  have hk1 : k0 ≤ 1 ∧ k0 ≤ n ∧ (n = 0 ∨ 0 < k0) := by rw [← hk0]; simp only [Nat.min_def]; split <;> omega
  have hcp : ∀ ty, (Builtin.copy_ #[ 125, 125 ] ty #[.slice (some ⟨w.heap.size, 0, none⟩) n n, .slice (some ⟨b, 0, none⟩) 1 1]).run Try.prog W0 = .ok (.int .i64 (k0 : Int)) (W0.setCells w.heap.size 0 (List.replicate (k0 * 4) (.int .i64 1099511627776))) := fun ty => by
    have := copy_cells_sz W0 125 125 ty 134 4 w.heap.size 0 n n ⟨b, 0, none⟩ 1 1 (List.replicate (k0 * 4) (.int .i64 1099511627776)) Try.underlying125 hsz (by rw [List.length_replicate, hk0]) (fun j v hj => by
        have hj1 : j < k0 * 4 := by have := (List.getElem?_eq_some_iff.1 hj).1; rwa [List.length_replicate] at this
        rw [List.getElem?_replicate, if_pos hj1] at hj
        cases hj
        have e : ((⟨b, 0, none⟩ : Addr).add j) = ⟨b, j, none⟩ := by unfold Addr.add; split <;> simp_all
        rw [e]
        exact cell_on B0 (hc j (by omega))) (fun j hj => by
        rw [List.length_replicate] at hj
        rw [Nat.zero_add, R0.c j (by omega)]; rfl) (fun j hj => R0.f _) (fun v hv => by rw [List.eq_of_mem_replicate hv]; rfl)
    rw [hk0] at this
    exact this
  have hR1 := R0.step (k := k0) (by omega)
  rw [Nat.zero_mul, Nat.zero_add] at hR1
  have HR1 := hid hR1
  have HB1 := hid (below_setCells (Nat.le_refl _) (List.replicate (k0 * 4) (.int .i64 1099511627776)) 0 W0 B0)
  rw [hW0] at hcp
  go_enter Try.func83, Try.ntmps83
  go_wp2_with (go_at_call 95; refine (HM.out _).mono ?_; rintro e w' ⟨rfl, rfl⟩)
  rw [← hW0]
  clear hW0 R0 hR1 B0 HM hmk hc hcp
  go_loopw [8] (fun v wr => ∃ m : Nat, m ≤ n ∧ (n = 0 ∨ 0 < m) ∧ v = .int .i64 m ∧ Below w.heap.size w wr ∧ Rep wr w.heap.size n m) (fun v _ => n - (intOf v).toNat)
  case atStart => exact ⟨k0, hk1.2.1, hk1.2.2, rfl, HB1.out, HR1.out⟩
  case round =>
    obtain ⟨m, hm, hm0, rfl, hbl, hR⟩ := hrel
    have HB := hid hbl
    have HR := hid hR
    by_cases hlt : m < n
    · have hd : decide ((m : Int) < (n : Int)) = true := by rw [decide_eq_true_iff]; omega
      obtain ⟨k, hk⟩ : ∃ k, Nat.min m (n - m) = k := ⟨_, rfl⟩
      have hkb : 0 < k ∧ m + k ≤ n := by rw [← hk]; simp only [Nat.min_def]; split <;> omega
      have bd := (Below.refl wr.heap.size wr).drew
      have hRd : Rep wr.drew w.heap.size n m := ⟨by simpa using hR.lt, fun j hj => cell_on bd (hR.c j hj), hR.f.below bd hR.lt⟩
      have hcp : ∀ ty, (Builtin.copy_ #[ 125, 125 ] ty #[.slice (some ⟨w.heap.size, m * 4, none⟩) (n - m) (n - m), .slice (some ⟨w.heap.size, 0, none⟩) m n]).run Try.prog wr.drew = .ok (.int .i64 (k : Int)) (wr.drew.setCells w.heap.size (m * 4) (List.replicate (k * 4) (.int .i64 1099511627776))) := fun ty => by
        have := copy_cells_sz wr.drew 125 125 ty 134 4 w.heap.size (m * 4) (n - m) (n - m) ⟨w.heap.size, 0, none⟩ m n (List.replicate (k * 4) (.int .i64 1099511627776)) Try.underlying125 hsz (by rw [List.length_replicate, hk]) (fun j v hj => by
            have hj1 : j < k * 4 := by have := (List.getElem?_eq_some_iff.1 hj).1; rwa [List.length_replicate] at this
            rw [List.getElem?_replicate, if_pos hj1] at hj
            cases hj
            have e : ((⟨w.heap.size, 0, none⟩ : Addr).add j) = ⟨w.heap.size, j, none⟩ := by unfold Addr.add; split <;> simp_all
            have hkm : k ≤ m := by rw [← hk]; simp only [Nat.min_def]; split <;> omega
            rw [e, hRd.c j (by omega), if_pos (by omega)]) (fun j hj => by
            rw [List.length_replicate] at hj
            rw [hRd.c _ (by omega)]; rfl) (fun j hj => hRd.f _) (fun v hv => by rw [List.eq_of_mem_replicate hv]; rfl)
        rw [hk] at this
        exact this
      have HR2 := hid (hRd.step (k := k) hkb.2)
      have HB2 := hid (below_setCells (B := w.heap.size) (Nat.le_refl _) (List.replicate (k * 4) (.int .i64 1099511627776)) (m * 4) wr.drew (HB.out.drew))
      have i0 : (0 : Int) ≤ (m : Int) := by omega
      have i1 : (m : Int) ≤ (n : Int) := by omega
      have hw : IntKind.i64.wrap ((m : Int) + (k : Int)) = (m : Int) + (k : Int) := IntWalk.i64_in _ (by omega)
      have hz := hbl.size
      clear hbl hR hRd bd
      go_wp2_with fail
      go_region
      go_wp2_with fail
      exact ⟨⟨m + k, by omega, by omega, by go_num, HB2.out, HR2.out⟩, by simp [intOf]; omega⟩
    · obtain rfl : m = n := by omega
      have hd : decide ((m : Int) < (m : Int)) = false := by rw [decide_eq_false_iff_not]; omega
      clear hbl hR
      go_wp2_with fail
      go_ret
      exact ⟨_, _, rfl, HB.out, Nat.le_refl _, HR.out.full, HR.out.f⟩
theorem none_I (n : Nat) (w : World) (hn : n ≤ 200) :
    Calls Try.prog 67 #[.int .i64 n] w fun e w' => ∃ g c, e = .returned (.slice (some ⟨g, 0, none⟩) n c) ∧ Below w.heap.size w w' ∧ w.heap.size ≤ g ∧ TuA w' g n (fun _ => big) ∧ Fz w' g := by
  obtain ⟨W0, hW0⟩ : ∃ W, W = w.alloc (.cells #[.int .i64 1099511627776, .int .i64 1099511627776, .int .i64 1099511627776, .int .i64 1099511627776] 134) := ⟨_, rfl⟩
  have B0 : Below w.heap.size w W0 := by rw [hW0]; exact (Below.refl _ _).alloc (Nat.le_refl _) _
  have hc : ∀ j, j < 4 → W0.cell? ⟨w.heap.size, j, none⟩ = some (.int .i64 1099511627776) := by
    intro j hj
    rw [hW0]
    rcases four_of hj with rfl | rfl | rfl | rfl <;> simp [go_sem]
  have H := hid (repeat_I w.heap.size n W0 hn hc)
  go_enter Try.func67, Try.ntmps67
  go_wp2_with fail
  rw [← hW0]
  clear hW0
  refine H.out.mono ?_
  rintro e w1 ⟨g, c, rfl, hb, hg, ht, hf⟩
  have HT := hid ht
  have HF := hid hf
  clear ht hf
  go_wp2_with fail
  go_ret
  exact ⟨g, c, rfl, below_of B0 B0.size hb, Nat.le_trans B0.size hg, HT.out, HF.out⟩
theorem idxTk {v0 v1 v2 v3 : Int} {f : Nat → Int} (h0 : f 0 = v0) (h1 : f 1 = v1) (h2 : f 2 = v2) (h3 : f 3 = v3) {s : Nat} (hs : s < 4) (W : World) :
    (Instr.index 134 (.agg #[.int .i64 v0, .int .i64 v1, .int .i64 v2, .int .i64 v3]) (.int .i64 (s : Int))).run Try.prog W = .ok (.int .i64 (f s)) W := by
  rcases four_of hs with rfl | rfl | rfl | rfl
  · rw [h0]; kernel_rfl
  · rw [h1]; kernel_rfl
  · rw [h2]; kernel_rfl
  · rw [h3]; kernel_rfl
def bef4 (v : Nat → Nat) (t side : Nat) : Bool := (List.range 4).any fun k => decide (v k < t ∨ v k = t ∧ k < side)
theorem bef4_true {v : Nat → Nat} {t side k : Nat} (hk : k < 4) (h : v k < t ∨ v k = t ∧ k < side) : bef4 v t side = true := by
  unfold bef4
  rw [List.any_eq_true]
  exact ⟨k, List.mem_range.2 hk, decide_eq_true h⟩
theorem bef4_false {v : Nat → Nat} {t side : Nat} (h : ∀ k, k < 4 → ¬ (v k < t ∨ v k = t ∧ k < side)) : bef4 v t side = false := by
  unfold bef4
  rw [List.any_eq_false]
  intro k hk
  simpa using h k (List.mem_range.1 hk)
set_option maxRecDepth 100000 in
set_option maxHeartbeats 1000000 in
theorem before_I (v : Nat → Nat) (t side : Nat) (w : World) (ht : t < big) (hs : side < 4) :
    Calls Try.prog 86 #[.agg #[.int .i64 (v 0), .int .i64 (v 1), .int .i64 (v 2), .int .i64 (v 3)], .int .i64 t, .int .i64 side] w fun e w' => e = .returned (.bool (bef4 v t side)) ∧ Below w.heap.size w w' := by
  have HB := hid (fun o => (Below.refl w.heap.size w).alloc (Nat.le_refl _) o)
  have HT := hid ht
  have hbig := hid (show big = 1099511627776 from rfl)
  clear ht
  go_enter Try.func86, Try.ntmps86
  go_wp2_with fail
  go_loop [10] (fun kv => ∃ k : Nat, k ≤ 4 ∧ kv = .int .i64 k ∧ ∀ j, j < k → ¬ (v j < t ∨ v j = t ∧ j < side)) (fun kv => 4 - (intOf kv).toNat)
  case atStart => exact ⟨0, Nat.zero_le _, rfl, fun j hj => by omega⟩
  case round =>
    obtain ⟨k, hk, rfl, hno⟩ := hrel
    have HN := hid hno
    clear hno
    by_cases hlt : k < 4
    · have hd : decide ((k : Int) < 4) = true := by rw [decide_eq_true_iff]; omega
      have hidx := fun W => idxTk (v0 := v 0) (v1 := v 1) (v2 := v 2) (v3 := v 3) (f := fun j => (v j : Int)) rfl rfl rfl rfl hlt W
      obtain ⟨u, hu⟩ : ∃ u, v k = u := ⟨_, rfl⟩
      simp only [hu] at hidx
      rcases Nat.lt_trichotomy u t with h1 | h1 | h1
      · have e1 : decide ((u : Int) < (t : Int)) = true := by rw [decide_eq_true_iff]; omega
        go_wp2_with fail
        go_ret
        exact ⟨ret_bool (bef4_true hlt (.inl (by omega))).symm, HB.out _⟩
      · subst h1
        have e1 : decide ((u : Int) < (u : Int)) = false := by rw [decide_eq_false_iff_not]; omega
        have e2 : ((u : Int) == (u : Int)) = true := by simp
        have e4 : decide ((u : Int) < 1099511627776) = true := by rw [decide_eq_true_iff]; have := HT.out; have := hbig.out; omega
        have HU := hid hu
        clear hu
        by_cases h2 : k < side
        · have e3 : decide ((k : Int) < (side : Int)) = true := by rw [decide_eq_true_iff]; omega
          go_wp2_with fail
          go_ret
          exact ⟨ret_bool (bef4_true hlt (.inr ⟨HU.out, h2⟩)).symm, HB.out _⟩
        · have e3 : decide ((k : Int) < (side : Int)) = false := by rw [decide_eq_false_iff_not]; omega
          go_wp2_with fail
          refine ⟨⟨k + 1, by omega, by go_num, fun j hj => ?_⟩, by simp [intOf]; omega⟩
          rcases Nat.lt_or_ge j k with h3 | h3
          · exact HN.out j h3
          · obtain rfl : j = k := by omega
            have := HU.out
            omega
      · have e1 : decide ((u : Int) < (t : Int)) = false := by rw [decide_eq_false_iff_not]; omega
        have e2 : ((u : Int) == (t : Int)) = false := by rw [beq_eq_false_iff_ne]; omega
        go_wp2_with fail
        refine ⟨⟨k + 1, by omega, by go_num, fun j hj => ?_⟩, by simp [intOf]; omega⟩
        rcases Nat.lt_or_ge j k with h3 | h3
        · exact HN.out j h3
        · obtain rfl : j = k := by omega
          omega
    · obtain rfl : k = 4 := by omega
      have hd : decide (((4 : Nat) : Int) < 4) = false := by decide
      go_wp2_with fail
      go_ret
      exact ⟨ret_bool (bef4_false HN.out).symm, HB.out _⟩
def minUp (v : Nat → Nat) : Nat → Nat
  | 0 => v 0
  | k + 1 => min (minUp v k) (v k)
set_option maxHeartbeats 1000000 in
theorem min_I (b : Nat) (v : Nat → Nat) (w : World) (hv : ∀ j, j < 4 → w.cell? ⟨b, j, none⟩ = some (.int .i64 (v j : Int))) :
    Calls Try.prog 90 #[.slice (some ⟨b, 0, none⟩) 4 4] w fun e w' => e = .returned (.int .i64 (best4 v : Int)) ∧ w = w' := by
  have hB : minUp v 4 = best4 v := by simp only [minUp, best4]; omega
  have HB := hid hB
  clear hB
  go_enter Try.func90, Try.ntmps90
  have c0 := hv 0 (by omega)
  go_wp2_with fail
  go_loop [3, 4] (fun mv kv => ∃ k : Nat, 1 ≤ k ∧ k ≤ 4 ∧ kv = .int .i64 k ∧ mv = .int .i64 (minUp v k : Int)) (fun _ kv => 4 - (intOf kv).toNat)
  case atStart => exact ⟨1, Nat.le_refl _, by omega, rfl, by simp [minUp]⟩
  case round =>
    obtain ⟨k, hk1, hk, rfl, rfl⟩ := hrel
    by_cases hlt : k < 4
    · have hd : decide ((k : Int) < 4) = true := by rw [decide_eq_true_iff]; omega
      have hki : (k : Int) < 4 := by omega
      have ck := hv k hlt
      go_wp2_with fail
      refine ⟨⟨k + 1, by omega, by omega, by go_num, congrArg (Value.int .i64) ?_⟩, by simp [intOf]; omega⟩
      rw [show minUp v (k + 1) = min (minUp v k) (v k) from rfl]
      omega
    · obtain rfl : k = 4 := by omega
      have hd : decide (((4 : Nat) : Int) < 4) = false := by decide
      go_wp2_with fail
      go_ret
      exact ⟨ret_int (by rw [HB.out]), rfl⟩
theorem leastTk_I (v : Nat → Nat) (w : World) :
    Calls Try.prog 72 #[.agg #[.int .i64 (v 0), .int .i64 (v 1), .int .i64 (v 2), .int .i64 (v 3)]] w fun e w' => e = .returned (.int .i64 (best4 v : Int)) ∧ Below w.heap.size w w' := by
  obtain ⟨W0, hW0⟩ : ∃ W, W = w.alloc (.cells #[.int .i64 (v 0), .int .i64 (v 1), .int .i64 (v 2), .int .i64 (v 3)] 134) := ⟨_, rfl⟩
  have B0 : Below w.heap.size w W0 := by rw [hW0]; exact (Below.refl _ _).alloc (Nat.le_refl _) _
  have H := hid (min_I w.heap.size v W0 (fun j hj => by rw [hW0]; rcases four_of hj with rfl | rfl | rfl | rfl <;> simp [go_sem]))
  go_enter Try.func72, Try.ntmps72
  go_wp2_with fail
  rw [← hW0]
  clear hW0
  refine H.out.mono ?_
  rintro e w1 ⟨rfl, rfl⟩
  go_wp2_with fail
  go_ret
  exact ⟨rfl, B0⟩
theorem eql_Tk (a0 a1 a2 a3 b0 b1 b2 b3 : Int) (w : World) : (Op.equalIn 10000 134 (.agg #[.int .i64 a0, .int .i64 a1, .int .i64 a2, .int .i64 a3]) (.agg #[.int .i64 b0, .int .i64 b1, .int .i64 b2, .int .i64 b3])).run Try.prog w = .ok (decide (a0 = b0 ∧ a1 = b1 ∧ a2 = b2 ∧ a3 = b3)) w := by
  have hsome : (Try.prog.info? 3).isSome = true := by kernel_rfl
  obtain ⟨i, hi⟩ := Option.isSome_iff_exists.1 hsome
  clear hsome
  have hc : Try.prog.cellsOf 3 = 1 := by kernel_rfl
  have hv := Try.underlying3
  have hu := Try.underlying134
  rw [run_equalIn_array (P := Try.prog) (w := w) 9999 _ _ hu hi, show List.range 4 = [0, 1, 2, 3] from rfl]
  simp [go_sem, Op.eqItems, hc, part, hv]
  by_cases h0 : a0 = b0 <;> by_cases h1 : a1 = b1 <;> by_cases h2 : a2 = b2 <;> by_cases h3 : a3 = b3 <;> simp [h0, h1, h2, h3]
def same4 (E E' : Nat → Nat) (i : Nat) : Bool := decide ((E (4 * i) : Int) = E' (4 * i) ∧ (E (4 * i + 1) : Int) = E' (4 * i + 1) ∧ (E (4 * i + 2) : Int) = E' (4 * i + 2) ∧ (E (4 * i + 3) : Int) = E' (4 * i + 3))
theorem same4_all {E E' : Nat → Nat} {n : Nat} (h : ∀ j, j < n → same4 E E' j = true) : sameL (4 * n) E E' = true := by
  rw [sameL_iff]
  intro y hy
  have := h (y / 4) (by omega)
  unfold same4 at this
  simp only [decide_eq_true_eq] at this
  obtain ⟨h0, h1, h2, h3⟩ := this
  have hy4 : y = 4 * (y / 4) ∨ y = 4 * (y / 4) + 1 ∨ y = 4 * (y / 4) + 2 ∨ y = 4 * (y / 4) + 3 := by omega
  rcases hy4 with h | h | h | h <;> (rw [h]; omega)
theorem same4_not {E E' : Nat → Nat} {n j : Nat} (hj : j < n) (h : same4 E E' j = false) : sameL (4 * n) E E' = false := by
  cases hs : sameL (4 * n) E E' with
  | false => rfl
  | true =>
    rw [sameL_iff] at hs
    unfold same4 at h
    rw [decide_eq_false_iff_not] at h
    exact absurd ⟨by rw [hs _ (by omega)], by rw [hs _ (by omega)], by rw [hs _ (by omega)], by rw [hs _ (by omega)]⟩ h
set_option maxRecDepth 100000 in
set_option maxHeartbeats 1000000 in
theorem equal_I (g1 g2 n c1 c2 : Nat) (E E' : Nat → Nat) (w : World) (hn : n ≤ 200) (h1 : TuA w g1 n E) (h2 : TuA w g2 n E') :
    Calls Try.prog 69 #[.slice (some ⟨g1, 0, none⟩) n c1, .slice (some ⟨g2, 0, none⟩) n c2] w fun e w' => e = .returned (.bool (sameL (4 * n) E E')) ∧ Below w.heap.size w w' := by
  go_enter Try.func69, Try.ntmps69
  go_wp2_with fail
  go_loopw [13] (fun i wr => ∃ k : Nat, k ≤ n ∧ i = .int .i64 k ∧ (∀ j, j < k → same4 E E' j = true) ∧ Below w.heap.size w wr) (fun i _ => n - (intOf i).toNat)
  case atStart => exact ⟨0, Nat.zero_le _, rfl, fun j hj => by omega, Below.refl _ _⟩
  case round =>
    obtain ⟨k, hk, rfl, hall, hbl⟩ := hrel
    have HA := hid hall
    clear hall
    by_cases hlt : k < n
    · have hd : decide ((k : Int) < (n : Int)) = true := by rw [decide_eq_true_iff]; omega
      have T1 := h1.below hbl h1.lt
      have T2 := h2.below hbl h2.lt
      have a0 : wr.cell? ⟨g1, k * 4, none⟩ = some (.int .i64 (E (4 * k) : Int)) := T1.c k 0 hlt (by omega)
      have a1 : wr.cell? ⟨g1, k * 4 + 1, none⟩ = some (.int .i64 (E (4 * k + 1) : Int)) := T1.c k 1 hlt (by omega)
      have a2 : wr.cell? ⟨g1, k * 4 + 2, none⟩ = some (.int .i64 (E (4 * k + 2) : Int)) := T1.c k 2 hlt (by omega)
      have a3 : wr.cell? ⟨g1, k * 4 + 3, none⟩ = some (.int .i64 (E (4 * k + 3) : Int)) := T1.c k 3 hlt (by omega)
      have b0 : wr.cell? ⟨g2, k * 4, none⟩ = some (.int .i64 (E' (4 * k) : Int)) := T2.c k 0 hlt (by omega)
      have b1 : wr.cell? ⟨g2, k * 4 + 1, none⟩ = some (.int .i64 (E' (4 * k + 1) : Int)) := T2.c k 1 hlt (by omega)
      have b2 : wr.cell? ⟨g2, k * 4 + 2, none⟩ = some (.int .i64 (E' (4 * k + 2) : Int)) := T2.c k 2 hlt (by omega)
      have b3 : wr.cell? ⟨g2, k * 4 + 3, none⟩ = some (.int .i64 (E' (4 * k + 3) : Int)) := T2.c k 3 hlt (by omega)
      have hg : Try.prog.eqGuardType Try.prog.depth 134 = false := by kernel_rfl
      obtain ⟨d, hdd⟩ : ∃ d, same4 E E' k = d := ⟨_, rfl⟩
      have heq := fun W => eql_Tk (E (4 * k)) (E (4 * k + 1)) (E (4 * k + 2)) (E (4 * k + 3)) (E' (4 * k)) (E' (4 * k + 1)) (E' (4 * k + 2)) (E' (4 * k + 3)) W
      simp only [show decide ((E (4 * k) : Int) = E' (4 * k) ∧ (E (4 * k + 1) : Int) = E' (4 * k + 1) ∧ (E (4 * k + 2) : Int) = E' (4 * k + 2) ∧ (E (4 * k + 3) : Int) = E' (4 * k + 3)) = d from hdd] at heq
      have HD := hid hdd
      have hki : (k : Int) < (n : Int) := by omega
      clear hdd T1 T2
      go_wp2_with fail
      go_quiet (fail)
      clear heq hg
      cases d
      · go_wp2_with fail
        go_ret
        exact ⟨ret_bool (same4_not hlt HD.out).symm, below_drewN hbl _⟩
      · go_wp2_with fail
        refine ⟨⟨k + 1, by omega, by go_num, fun j hj => ?_, below_drewN hbl _⟩, by simp [intOf]; omega⟩
        rcases Nat.lt_or_ge j k with h3 | h3
        · exact HA.out j h3
        · obtain rfl : j = k := by omega
          exact HD.out
    · obtain rfl : k = n := by omega
      have hd : decide ((k : Int) < (k : Int)) = false := by rw [decide_eq_false_iff_not]; omega
      go_wp2_with fail
      go_ret
      exact ⟨ret_bool (same4_all HA.out).symm, hbl⟩
end Go.Proofs.Ytnabedhhflfepaa
