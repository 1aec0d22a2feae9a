/-
  The laws' own helpers over boards: sizes, copies, comparisons, marks.
  Conditions: lengths up to a bound where memory is made.
-/
import Derived.Test.YtemnglkenaklnaaConvPc
namespace Go.Proofs.Ytemnglkenaklnaa
open Go.RowKit
set_option linter.unusedSimpArgs false
set_option linter.unusedVariables false

theorem sz_Bd_L (wi hi : Int) (a : Option Addr) (n c : Nat) (left : Int) (w : World) (h0 : 0 ≤ left) (h1 : left ≤ 1048576) (hn : n ≤ 9223372036854775807) :
    Calls Try.prog 7 #[.agg #[.int .i8 wi, .int .i8 hi, .slice a n c], .int .i64 left] w fun e w' => e = .returned (.int .i64 (if left - n < 0 then -1 else left - n)) ∧ Below w.heap.size w w' := by
  obtain ⟨r, hr⟩ : ∃ r : Int, (if left - n < 0 then -1 else left - n) = r := ⟨_, rfl⟩
  have hr0 : r < 0 → r = -1 := by intro h; split at hr <;> omega
  have Hs := hid (fun W => sz_Pc_L a n c left W h0 h1 hn)
  rw [hr] at Hs
  rw [hr]
  have Hr := hid hr0
  clear hr hr0
  go_enter Try.func7, Try.ntmps7
  go_wp2_with (go_at_call 32; refine (Hs.out _).mono ?_; rintro e w1 ⟨rfl, rfl⟩)
  · go_ret
    exact ⟨ret_int (Hr.out (by assumption)).symm, (Below.refl _ _).alloc (Nat.le_refl _) _⟩
  · go_ret
    exact ⟨rfl, (Below.refl _ _).alloc (Nat.le_refl _) _⟩
theorem to_Bd_L (wi hi : Int) (a : Option Addr) (c : Nat) (xs : List Pc) (w : World) (h : SlA Pc.enc 5 w a xs) (hs : xs.length ≤ 1048576) :
    Calls Try.prog 10 #[.agg #[.int .i8 wi, .int .i8 hi, .slice a xs.length c]] w fun e w' => ∃ g, e = .returned (.agg #[.int .i8 wi, .int .i8 hi, .slice (some ⟨g, 0, none⟩) xs.length xs.length]) ∧ Below w.heap.size w w' ∧ w'.ownsRow w.heap.size 135 5 (.slice (some ⟨g, 0, none⟩) xs.length xs.length) xs.length (xs.flatMap Pc.enc) := by
  have Hs := hid (fun W h => toS_Pc_L a c xs W h hs)
  go_enter Try.func10, Try.ntmps10
  go_wp2_with fail
  refine (Hs.out _ (h.below ((((Below.refl _ _).alloc (Nat.le_refl _) _).alloc (by simp) _).alloc (by simp; omega) _))).mono ?_
  rintro e w1 ⟨g, rfl, hb1, own⟩
  have hz := hb1.size
  simp only [World.size_alloc, World.size_setCell] at hz
  obtain ⟨hc1, hf1⟩ := bcell hb1
  have s1 : w.heap.size < w1.heap.size := by omega
  have s2 : w.heap.size + 1 < w1.heap.size := by omega
  have s3 : w.heap.size + 1 + 1 < w1.heap.size := by omega
  have Ho := hid own
  clear own
  go_wp2_with fail
  refine bodyPost_ret (v := .agg #[.int .i8 wi, .int .i8 hi, .slice (some ⟨g, 0, none⟩) xs.length xs.length]) (by simp [results, Try.results10, go_sem, hc1, s1, s2, s3]) rfl ⟨g, rfl, ?_, ?_⟩
  · repeat (refine Below.setCell ?_ (by simp; try omega) _)
    exact below_of ((((Below.refl _ _).alloc (Nat.le_refl _) _).alloc (by simp) _).alloc (by simp; omega) _) (by simp; omega) hb1
  · have own := Ho.out
    simp only [World.size_alloc, World.size_setCell] at own
    have low : w1.ownsRow w.heap.size 135 5 (.slice (some ⟨g, 0, none⟩) xs.length xs.length) xs.length (xs.flatMap Pc.enc) := by
      refine ⟨own.1, ?_⟩
      rcases own.2 with h | ⟨g', cap, cur, hv, hg, r⟩
      · exact .inl h
      · exact .inr ⟨g', cap, cur, hv, by omega, r⟩
    have hgb : w.heap.size + 1 + 1 + 1 ≤ g := by
      rcases own.2 with h | ⟨g', cap, cur, hv, hg, r⟩
      · cases h.1
      · injection hv with hv; injection hv with hv; injection hv with hv; omega
    have far : ∀ (W : World) (p : Addr) (u : Value), W.ownsRow w.heap.size 135 5 (.slice (some ⟨g, 0, none⟩) xs.length xs.length) xs.length (xs.flatMap Pc.enc) → p.block ≠ g → (W.setCell p u).ownsRow w.heap.size 135 5 (.slice (some ⟨g, 0, none⟩) xs.length xs.length) xs.length (xs.flatMap Pc.enc) := fun W p u h hne =>
      h.kept (row := some p.block) ⟨rfl, rfl, rfl, by simp, fun k _ hk => heap_setCell_other W p k u (fun e => hk (by simp [e]))⟩ (.inr (by simp [Value.ownBlock]; omega))
    repeat (refine far _ _ _ ?_ (by simp; omega))
    exact low
set_option maxHeartbeats 400000 in
theorem eq_Bd_L (wi hi wj hj : Int) (a b : Option Addr) (c d : Nat) (xs ys : List Pc) (w : World) (ha : SlA Pc.enc 5 w a xs) (hb : SlA Pc.enc 5 w b ys) :
    Calls Try.prog 14 #[.agg #[.int .i8 wi, .int .i8 hi, .slice a xs.length c], .agg #[.int .i8 wj, .int .i8 hj, .slice b ys.length d]] w fun e w' => e = .returned (.bool (decide (wi = wj ∧ hi = hj ∧ xs = ys))) ∧ Below w.heap.size w w' := by
  have B0 : ∀ o1 o2, Below w.heap.size w ((w.alloc o1).alloc o2) := fun o1 o2 => ((Below.refl _ _).alloc (Nat.le_refl _) _).alloc (by simp) _
  have Hs := hid (fun o1 o2 => eqS_Pc_L a b c d xs ys ((w.alloc o1).alloc o2) (ha.below (B0 o1 o2)) (hb.below (B0 o1 o2)))
  have HB := hid B0
  clear B0 ha hb
  obtain ⟨d0, hd0⟩ : ∃ d0, decide (xs = ys) = d0 := ⟨_, rfl⟩
  rw [hd0] at Hs
  have Hd := hid hd0
  clear hd0
  go_enter Try.func14, Try.ntmps14
  go_wp2_with (go_at_call 46; refine (Hs.out _ _).mono ?_; rintro e w1 ⟨rfl, hb1⟩)
  all_goals go_ret
  · refine ⟨ret_bool ?_, HB.out _ _⟩
    rename_i h
    have : wi ≠ wj := by simpa using h
    simp [this]
  · refine ⟨ret_bool ?_, HB.out _ _⟩
    have : hi ≠ hj := by rename_i h; simpa using h
    simp [this]
  all_goals
    refine ⟨ret_bool ?_, below_of (HB.out _ _) (by simp; omega) hb1⟩
    have h9 := Hd.out
    simp_all
theorem markS_Bd_L (base : Nat) (wi hi : Int) (A : Option Addr) (c : Nat) (xs : List Pc) (k0 : Int) (w : World) (h : w.ownsRow base 135 5 (.slice A xs.length c) xs.length (xs.flatMap Pc.enc)) (h0 : 0 ≤ k0) (h1 : k0 ≤ 1099511627776) (hs : xs.length ≤ 1073741824) :
    Calls Try.prog 15 #[.agg #[.int .i8 wi, .int .i8 hi, .slice A xs.length c], .int .i64 k0] w fun e w' => e = .returned (.int .i64 (k0 + 5 * xs.length)) ∧ w.grownBy w' (A.map (·.block)) ∧ w'.ownsRow base 135 5 (.slice A xs.length c) xs.length ((markL Pc.mk_ 5 xs.length k0).flatMap Pc.enc) := by
  have Hs := hid (fun o => markS_Pc_L base A c xs k0 (w.alloc o) (h.alloc o) h0 h1 hs)
  clear h
  go_enter Try.func15, Try.ntmps15
  go_wp2_with fail
  refine (Hs.out _).mono ?_
  rintro e w1 ⟨rfl, hg, own⟩
  have Ho := hid own
  have Hg := hid hg
  clear own hg
  go_wp2_with fail
  go_ret
  exact ⟨rfl, World.grownBy.trans (World.grownBy_alloc w _ _) Hg.out, Ho.out⟩
theorem heldS_Bd_L (wi hi : Int) (a : Option Addr) (c m : Nat) (k0 : Int) (w : World) (h : SlA Pc.enc 5 w a (markL Pc.mk_ 5 m k0)) (h0 : 0 ≤ k0) (h1 : k0 ≤ 1099511627776) (hs : m ≤ 1073741824) :
    Calls Try.prog 21 #[.agg #[.int .i8 wi, .int .i8 hi, .slice a m c], .int .i64 k0] w fun e w' => e = .returned (.int .i64 (k0 + 5 * m)) ∧ Below w.heap.size w w' := by
  have Hs := hid (fun o => heldS_Pc_L a c m k0 (w.alloc o) (h.below ((Below.refl _ _).alloc (Nat.le_refl _) o)) h0 h1 hs)
  clear h
  obtain ⟨r, hr⟩ : ∃ r : Int, k0 + 5 * m = r := ⟨_, rfl⟩
  rw [hr] at Hs
  have hr0 : 0 ≤ r := by omega
  rw [hr]
  clear hr
  go_enter Try.func21, Try.ntmps21
  go_wp2_with fail
  refine (Hs.out _).mono ?_
  rintro e w1 ⟨rfl, rfl⟩
  go_wp2_with fail
  go_ret
  exact ⟨rfl, (Below.refl _ _).alloc (Nat.le_refl _) _⟩
end Go.Proofs.Ytemnglkenaklnaa
