/-
  slices.Repeat at falls: a row of pieces that stay.
  Conditions: at most 200 pieces.
-/
import Derived.Test.YthhfndifcdiomaaGreatTicks
import Derived.Test.YthhfndifcdiomaaGreatBoF
import Derived.Test.YthhfndifcdiomaaGreatHits
namespace Go.Proofs.YthhfndifcdiomaaGreat
open Go.RowKit
set_option linter.unusedSimpArgs false
set_option linter.unusedVariables false

def stayV (j : Nat) : Value := if j % 3 = 1 then .int .i8 0 else .int .i64 (-1)
def zeroF (j : Nat) : Value := if j % 3 = 1 then .int .i8 0 else .int .i64 0
theorem stayV_one (j : Nat) : (stayV j).oneCell' = true := by unfold stayV; split <;> rfl
/-- The first m falls are laid, the others are zeros. -/
structure RepF (w : World) (g n m : Nat) : Prop where
  lt : g < w.heap.size
  c : ∀ j, j < n * 3 → w.cell? ⟨g, j, none⟩ = some (if j < m * 3 then stayV j else zeroF j)
  f : Fz w g
def stays3 (k : Nat) : List Value := (List.range (k * 3)).map stayV
theorem stays3_len (k : Nat) : (stays3 k).length = k * 3 := by unfold stays3; simp
theorem stays3_at {k j : Nat} {v : Value} (h : (stays3 k)[j]? = some v) : j < k * 3 ∧ v = stayV j := by
  unfold stays3 at h
  rw [List.getElem?_map] at h
  cases e : (List.range (k * 3))[j]? with
  | none => rw [e] at h; cases h
  | some i =>
    rw [e] at h
    obtain ⟨h1, h2⟩ := List.getElem?_eq_some_iff.1 e
    rw [List.getElem_range] at h2
    subst h2
    cases h
    exact ⟨by simpa using h1, rfl⟩
theorem stays3_mem {k : Nat} : ∀ v ∈ stays3 k, v.oneCell' = true := fun v hv => by
  unfold stays3 at hv
  rw [List.mem_map] at hv
  obtain ⟨j, _, rfl⟩ := hv
  exact stayV_one j
theorem stayV_add (m i : Nat) : stayV (m * 3 + i) = stayV i := by
  unfold stayV
  rw [show (m * 3 + i) % 3 = i % 3 by omega]
theorem RepF.step {w : World} {g n m k : Nat} (h : RepF w g n m) (hk : m + k ≤ n) : RepF (w.setCells g (m * 3) (stays3 k)) g n (m + k) := by
  have hl := stays3_len k
  have hs : ∀ j, j < (stays3 k).length → (w.cell? ⟨g, m * 3 + j, none⟩).isSome = true := fun j hj => by
    rw [hl] at hj
    rw [h.c _ (by omega)]
    rfl
  refine ⟨?_, fun j hj => ?_, fun j => ?_⟩
  · exact Nat.lt_of_lt_of_le h.lt (RowKit.Below.size (below_setCells (Nat.zero_le _) _ _ _ (Below.refl 0 w)))
  · by_cases h1 : m * 3 ≤ j ∧ j < (m + k) * 3
    · obtain ⟨i, hi⟩ : ∃ i, j = m * 3 + i := ⟨j - m * 3, by omega⟩
      subst hi
      have := World.cell?_setCells_in g (stays3 k) (m * 3) w hs i (by rw [hl]; omega)
      rw [this, if_pos h1.2, stayV_add]
      unfold stays3
      simp
    · rw [World.cell?_setCells_out g _ _ _ ⟨g, j, none⟩ (fun _ _ => by rw [hl]; dsimp only; omega), h.c j hj]
      by_cases h2 : j < m * 3
      · rw [if_pos h2, if_pos (by omega)]
      · rw [if_neg h2, if_neg (by omega)]
  · rw [World.frozen?_setCells]
    exact h.f j
theorem RepF.full {w : World} {g n : Nat} (h : RepF w g n n) : FaA w g n (fun _ => big) := by
  have hb : keyT big = -1 := keyT_big
  have hs : keyS big = 0 := keyS_big
  refine ⟨h.lt, fun i hi => ?_, fun i hi => ?_, fun i hi => ⟨-1, ?_⟩⟩
  · rw [h.c _ (by omega), if_pos (by omega), hb]; unfold stayV; rw [if_neg (by omega)]
  · rw [h.c _ (by omega), if_pos (by omega), hs]; unfold stayV; rw [if_pos (by omega)]
  · rw [h.c _ (by omega), if_pos (by omega)]; unfold stayV; rw [if_neg (by omega)]
theorem repF_made (W : World) (n : Nat) : RepF (W.alloc (.cells (madeCells #[.int .i64 0, .int .i8 0, .int .i64 0] (n * 3)) 141)) W.heap.size n 0 := by
  refine ⟨by simp, fun j hj => ?_, fz_made _ _ _⟩
  rw [World.cell?_alloc_new, if_neg (by omega)]
  unfold madeCells
  have hz : ∀ k, (#[.int .i64 0, .int .i8 0, .int .i64 0] : Array Value)[k % 3]! = zeroF k := by
    intro k
    have : k % 3 = 0 ∨ k % 3 = 1 ∨ k % 3 = 2 := by omega
    unfold zeroF
    rcases this with h | h | h <;> rw [h] <;> rfl
  show ((Array.range (n * 3)).map _)[j]? = _
  rw [Array.getElem?_map, Array.getElem?_eq_getElem (by simpa using hj)]
  simp only [Array.getElem_range, Option.map_some]
  exact congrArg some (hz j)
theorem stay_I (w : World) : Calls Tryz.prog 132 #[] w fun e w' => e = .returned (.agg #[.int .i64 (-1), .int .i8 0, .int .i64 (-1)]) ∧ Below w.heap.size w w' := by
  have HB := hid (fun o => (Below.refl w.heap.size w).alloc (Nat.le_refl _) o)
  go_enter Tryz.func132, Tryz.ntmps132
  go_wp2_with fail
  refine bodyPost_ret (v := .agg #[.int .i64 (-1), .int .i8 0, .int .i64 (-1)]) ?_ rfl ?_
  · refine results_cell Tryz.results132 (by rfl) ?_
    go_simp
  · exact ⟨rfl, HB.out _⟩
set_option maxRecDepth 100000 in
set_option maxHeartbeats 2000000 in
theorem repeatF_I (b n : Nat) (w : World) (hn : n ≤ 200) (hc : ∀ j, j < 3 → w.cell? ⟨b, j, none⟩ = some (stayV j)) :
    Calls Tryz.prog 131 #[.slice (some ⟨b, 0, none⟩) 1 1, .int .i64 n] w fun e w' => ∃ g c, e = .returned (.slice (some ⟨g, 0, none⟩) n c) ∧ Below w.heap.size w w' ∧ w.heap.size ≤ g ∧ FaA w' g n (fun _ => big) ∧ Fz w' g := by
  have HM := hid (fun W => mul_I n W (by omega) (by omega))
  have hmk := make_any (P := Tryz.prog) 127 141 (.agg #[.int .i64 0, .int .i8 0, .int .i64 0]) 3 24 Tryz.underlying127 (by kernel_rfl) n (by omega) (by omega)
  have hwu : IntKind.u64.wrap (n : Int) = n := by rw [IntKind.wrap_u64]; omega
  have hwi : IntKind.i64.wrap (n : Int) = n := IntWalk.i64_in _ (by omega)
  have hneg : decide ((n : Int) < 0) = false := by rw [decide_eq_false_iff_not]; omega
  have hbig : decide ((n : Int) > 9223372036854775807) = false := by rw [decide_eq_false_iff_not]; omega
  obtain ⟨W0, hW0⟩ : ∃ W, W = w.alloc (.cells (madeCells #[.int .i64 0, .int .i8 0, .int .i64 0] (n * 3)) 141) := ⟨_, rfl⟩
  have B0 : Below w.heap.size w W0 := by rw [hW0]; exact (Below.refl _ _).alloc (Nat.le_refl _) _
  have R0 : RepF W0 w.heap.size n 0 := by rw [hW0]; exact repF_made w n
  have hsz : (Tryz.prog.info? 141).map (·.size) = some 3 := by kernel_rfl
  obtain ⟨k0, hk0⟩ : ∃ k0, Nat.min 1 n = k0 := ⟨_, rfl⟩
  have hk1 : k0 ≤ 1 ∧ k0 ≤ n ∧ (n = 0 ∨ 0 < k0) := by rw [← hk0]; simp only [Nat.min_def]; split <;> omega
  have hcp : ∀ ty, (Builtin.copy_ #[ 127, 127 ] ty #[.slice (some ⟨w.heap.size, 0, none⟩) n n, .slice (some ⟨b, 0, none⟩) 1 1]).run Tryz.prog W0 = .ok (.int .i64 (k0 : Int)) (W0.setCells w.heap.size 0 (stays3 k0)) := fun ty => by
    have := copy_cells_sz W0 127 127 ty 141 3 w.heap.size 0 n n ⟨b, 0, none⟩ 1 1 (stays3 k0) Tryz.underlying127 hsz (by rw [stays3_len, hk0]) (fun j v hj => by
        obtain ⟨hj1, rfl⟩ := stays3_at hj
        have e : ((⟨b, 0, none⟩ : Addr).add j) = ⟨b, j, none⟩ := by unfold Addr.add; split <;> simp_all
        rw [e]
        exact cell_on B0 (hc j (by omega))) (fun j hj => by
        rw [stays3_len] at hj
        rw [Nat.zero_add, R0.c j (by omega)]; rfl) (fun j hj => R0.f _) stays3_mem
    rw [hk0] at this
    exact this
  have hR1 := R0.step (k := k0) (by omega)
  rw [Nat.zero_mul, Nat.zero_add] at hR1
  have HR1 := hid hR1
  have HB1 := hid (below_setCells (Nat.le_refl _) (stays3 k0) 0 W0 B0)
  rw [hW0] at hcp
  go_enter Tryz.func131, Tryz.ntmps131
  go_wp2_with (go_at_call 141; refine (HM.out _).mono ?_; rintro e w' ⟨rfl, rfl⟩)
  rw [← hW0]
  clear hW0 R0 hR1 B0 HM hmk hc hcp
  go_loopw [8] (fun v wr => ∃ m : Nat, m ≤ n ∧ (n = 0 ∨ 0 < m) ∧ v = .int .i64 m ∧ Below w.heap.size w wr ∧ RepF wr w.heap.size n m) (fun v _ => n - (intOf v).toNat)
  case atStart => exact ⟨k0, hk1.2.1, hk1.2.2, rfl, HB1.out, HR1.out⟩
  case round =>
    obtain ⟨m, hm, hm0, rfl, hbl, hR⟩ := hrel
    have HB := hid hbl
    have HR := hid hR
    by_cases hlt : m < n
    · have hd : decide ((m : Int) < (n : Int)) = true := by rw [decide_eq_true_iff]; omega
      obtain ⟨k, hk⟩ : ∃ k, Nat.min m (n - m) = k := ⟨_, rfl⟩
      have hkb : 0 < k ∧ m + k ≤ n := by rw [← hk]; simp only [Nat.min_def]; split <;> omega
      have bd := (Below.refl wr.heap.size wr).drew
      have hRd : RepF wr.drew w.heap.size n m := ⟨by simpa using hR.lt, fun j hj => cell_on bd (hR.c j hj), hR.f.below bd hR.lt⟩
      have hcp : ∀ ty, (Builtin.copy_ #[ 127, 127 ] ty #[.slice (some ⟨w.heap.size, m * 3, none⟩) (n - m) (n - m), .slice (some ⟨w.heap.size, 0, none⟩) m n]).run Tryz.prog wr.drew = .ok (.int .i64 (k : Int)) (wr.drew.setCells w.heap.size (m * 3) (stays3 k)) := fun ty => by
        have := copy_cells_sz wr.drew 127 127 ty 141 3 w.heap.size (m * 3) (n - m) (n - m) ⟨w.heap.size, 0, none⟩ m n (stays3 k) Tryz.underlying127 hsz (by rw [stays3_len, hk]) (fun j v hj => by
            obtain ⟨hj1, rfl⟩ := stays3_at hj
            have e : ((⟨w.heap.size, 0, none⟩ : Addr).add j) = ⟨w.heap.size, j, none⟩ := by unfold Addr.add; split <;> simp_all
            have hkm : k ≤ m := by rw [← hk]; simp only [Nat.min_def]; split <;> omega
            rw [e, hRd.c j (by omega), if_pos (by omega)]) (fun j hj => by
            rw [stays3_len] at hj
            rw [hRd.c _ (by omega)]; rfl) (fun j hj => hRd.f _) stays3_mem
        rw [hk] at this
        exact this
      have HR2 := hid (hRd.step (k := k) hkb.2)
      have HB2 := hid (below_setCells (B := w.heap.size) (Nat.le_refl _) (stays3 k) (m * 3) wr.drew (HB.out.drew))
      have i0 : (0 : Int) ≤ (m : Int) := by omega
      have i1 : (m : Int) ≤ (n : Int) := by omega
      have hw : IntKind.i64.wrap ((m : Int) + (k : Int)) = (m : Int) + (k : Int) := IntWalk.i64_in _ (by omega)
      have hz := hbl.size
      clear hbl hR hRd bd
      go_wp2_with fail
      go_region
      go_wp2_with fail
      exact ⟨⟨m + k, by omega, by omega, by go_num, HB2.out, HR2.out⟩, by simp [intOf]; omega⟩
    · obtain rfl : m = n := by omega
      have hd : decide ((m : Int) < (m : Int)) = false := by rw [decide_eq_false_iff_not]; omega
      clear hbl hR
      go_wp2_with fail
      go_ret
      exact ⟨_, _, rfl, HB.out, Nat.le_refl _, HR.out.full, HR.out.f⟩
end Go.Proofs.YthhfndifcdiomaaGreat
