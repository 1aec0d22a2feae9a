/-
  FnExactFitsWindow's call: it returns true, whatever the arguments are.
  Conditions: the arguments' fields are in their kinds' ranges.
-/
import Derived.Test.YtnoiendelcidbaaProg
import Derived.Test.YtnoiendelcidbaaData
import Derived.Deep.RegionWith
namespace Go.Proofs.Ytnoiendelcidbaa
open Go.RowKit

def inB (n low high : Int) : Bool := decide (low ≤ n) && decide (n ≤ high)
theorem in_S (n low high : Int) (w : World) :
    Calls Try.prog 62 #[.int .i64 n, .int .i64 low, .int .i64 high] w fun e w' => e = .returned (.bool (inB n low high)) ∧ w = w' := by
  go_enter Try.func62, Try.ntmps62
  go_wp2
  all_goals (go_ret)
  all_goals (refine ⟨?_, rfl⟩)
  all_goals (simp [inB]; try omega)
theorem in_I (n low high : Int) (w : World) :
    Calls Try.prog 66 #[.int .i64 n, .int .i64 low, .int .i64 high] w fun e w' => e = .returned (.bool (inB n low high)) ∧ w = w' := by
  go_enter Try.func66, Try.ntmps66
  go_wp2
  all_goals (go_ret)
  all_goals (refine ⟨?_, rfl⟩)
  all_goals (simp [inB]; try omega)
theorem side_S (n : Int) (w : World) :
    Calls Try.prog 56 #[.int .i64 n] w fun e w' => e = .returned (.bool (inB n 0 3)) ∧ w = w' := by
  go_enter Try.func56, Try.ntmps56
  go_wp2_with (go_at_call 62; refine (in_S _ _ _ _).mono ?_; rintro e w' ⟨rfl, rfl⟩)
  go_ret
  exact ⟨rfl, rfl⟩
theorem side_I (n : Int) (w : World) :
    Calls Try.prog 57 #[.int .i64 n] w fun e w' => e = .returned (.bool (inB n 0 3)) ∧ w = w' := by
  go_enter Try.func57, Try.ntmps57
  go_wp2_with (go_at_call 66; refine (in_I _ _ _ _).mono ?_; rintro e w' ⟨rfl, rfl⟩)
  go_ret
  exact ⟨rfl, rfl⟩
def fits (si : Int) (su : Bool) (ea la ti fr : Int) : Bool :=
  if ti < 0 then !su else inB fr 0 3 && decide (si / 2 ^ fr.toNat % 2 = 1) && decide (ea ≤ ti) && (!su || decide (ti ≤ la))
theorem u8_and1 (x : Int) (h₀ : 0 ≤ x) (h₁ : x < 256) : bits .and .u8 x 1 = x % 2 := bits_mask .u8 8 (by decide) wraps_u8 1 (by decide) x h₀ h₁
theorem shr_and1 (si : Int) (k : Nat) (h0 : 0 ≤ si) (h1 : si < 256) : bits BinOp.and IntKind.u8 (si / 2 ^ k) 1 = si / 2 ^ k % 2 := by
  rw [u8_and1]
  · exact Int.ediv_nonneg h0 (Int.pow_nonneg (by omega))
  · exact Int.lt_of_le_of_lt (Int.ediv_le_self _ h0) h1
theorem shr_eq (si fr : Int) (h0 : 0 ≤ si) (h1 : si < 256) (f0 : inB fr 0 3 = true) :
   bits BinOp.and IntKind.u8 (si / 2 ^ min (IntKind.u64.wrap fr).toNat 8) 1 = si / 2 ^ fr.toNat % 2 := by
  simp [inB] at f0
  have : IntKind.u64.wrap fr = fr := by
    rw [IntKind.wrap]; simp [IntKind.bits]; omega
  rw [this, Nat.min_eq_left (by omega), shr_and1 _ _ h0 h1]
theorem has_I (s k : Int) (w : World) (h0 : 0 ≤ s) (h1 : s < 256) (h2 : 0 ≤ k) (h3 : k ≤ 3) :
    Calls Try.prog 58 #[.int .u8 s, .int .i64 k] w fun e w' => e = .returned (.bool (decide (s / 2 ^ k.toNat % 2 = 1))) ∧ w = w' := by
  go_enter Try.func58, Try.ntmps58
  go_wp2
  go_ret
  exact ⟨ret_bool (by rw [shr_and1 _ _ h0 h1]; rfl), rfl⟩
set_option maxHeartbeats 400000 in
theorem FitsWindow_S (p : Wn) (q : Fa) (w : World) (hp : p.Ok) (hq : q.Ok) :
    Calls Try.prog 12 #[.agg p.enc.toArray, .agg q.enc.toArray] w fun e w' => e = .returned (.bool (fits p.si p.su p.ea p.la q.ti q.fr)) ∧ Below w.heap.size w w' := by
  obtain ⟨si, su, ea, la⟩ := p
  obtain ⟨ti, fr, by_⟩ := q
  obtain ⟨h0, h1, _, _, _, _⟩ := hp
  obtain ⟨_, _, h2, h3, _, _⟩ := hq
  simp only [Wn.enc, Fa.enc] at *
  have HS := hid (shr_eq si fr h0 (by omega))
  go_enter Try.func12, Try.ntmps12
  go_wp2_with (go_at_call 56; refine (side_S _ _).mono ?_; rintro e w' ⟨rfl, rfl⟩)
  all_goals go_ret
  all_goals refine ⟨ret_bool ?_, ((Below.refl _ _).alloc (Nat.le_refl _) _).alloc (by simp) _⟩
  all_goals (try rw [HS.out (by assumption)] at *)
  all_goals (simp only [fits])
  all_goals (by_cases hti : ti < 0 <;> simp_all <;> (first | omega | (rw [if_neg (by omega)]; intro _; omega)))
set_option maxHeartbeats 400000 in
theorem FitsWindow_I (p : Wn) (q : Fa) (w : World) (hp : p.Ok) (hq : q.Ok) :
    Calls Try.prog 15 #[.agg p.enc.toArray, .agg q.enc.toArray] w fun e w' => e = .returned (.bool (fits p.si p.su p.ea p.la q.ti q.fr)) ∧ Below w.heap.size w w' := by
  obtain ⟨si, su, ea, la⟩ := p
  obtain ⟨ti, fr, by_⟩ := q
  obtain ⟨h0, h1, _, _, _, _⟩ := hp
  obtain ⟨_, _, h2, h3, _, _⟩ := hq
  simp only [Wn.enc, Fa.enc] at *
  have h1' : si < 256 := by omega
  by_cases hs : inB fr 0 3 = true
  · have hs' := hs
    simp only [inB, Bool.and_eq_true, decide_eq_true_eq] at hs'
    obtain ⟨f0, f1⟩ := hs'
    go_enter Try.func15, Try.ntmps15
    go_wp2_with (first | (go_at_call 57; refine (side_I _ _).mono ?_; rintro e w' ⟨rfl, rfl⟩) | (go_at_call 58; refine (has_I _ _ _ h0 h1' f0 f1).mono ?_; rintro e w' ⟨rfl, rfl⟩))
    all_goals go_ret
    all_goals refine ⟨ret_bool ?_, ((Below.refl _ _).alloc (Nat.le_refl _) _).alloc (by simp) _⟩
    all_goals (simp only [fits])
    all_goals (by_cases hti : ti < 0 <;> simp_all <;> (first | omega | (rw [if_neg (by omega)]; intro _; omega)))
  · have hs' : inB fr 0 3 = false := by simpa using hs
    go_enter Try.func15, Try.ntmps15
    go_wp2_with (go_at_call 57; refine (side_I _ _).mono ?_; rintro e w' ⟨rfl, rfl⟩)
    all_goals go_ret
    all_goals refine ⟨ret_bool ?_, ((Below.refl _ _).alloc (Nat.le_refl _) _).alloc (by simp) _⟩
    all_goals (simp only [fits])
    all_goals (by_cases hti : ti < 0 <;> simp_all <;> (first | omega | (rw [if_neg (by omega)]; intro _; omega)))
theorem toWindow_L (p : Wn) (w : World) :
    Calls Try.prog 13 #[.agg p.enc.toArray] w fun e w' => e = .returned (.agg p.enc.toArray) ∧ Below w.heap.size w w' := by
  obtain ⟨si, su, ea, la⟩ := p
  simp only [Wn.enc] at *
  go_enter Try.func13, Try.ntmps13
  go_wp2
  refine bodyPost_ret (v := .agg #[.int .u8 si, .bool su, .int .i64 ea, .int .i64 la]) (by simp [results, Try.results13, go_sem]) rfl ⟨rfl, ?_⟩
  exact (((Below.refl _ _).alloc (Nat.le_refl _) _).alloc (by simp) _).alloc (by simp; omega) _
theorem toFall_L (p : Fa) (w : World) :
    Calls Try.prog 14 #[.agg p.enc.toArray] w fun e w' => e = .returned (.agg p.enc.toArray) ∧ Below w.heap.size w w' := by
  obtain ⟨ti, fr, by_⟩ := p
  simp only [Fa.enc] at *
  go_enter Try.func14, Try.ntmps14
  go_wp2
  refine bodyPost_ret (v := .agg #[.int .i64 ti, .int .i8 fr, .int .i64 by_]) (by simp [results, Try.results14, go_sem]) rfl ⟨rfl, ?_⟩
  exact (((Below.refl _ _).alloc (Nat.le_refl _) _).alloc (by simp) _).alloc (by simp; omega) _
set_option maxHeartbeats 1000000 in
theorem law_FnExactFitsWindow (w : World) (p : Wn) (hp : p.Ok) (q : Fa) (hq : q.Ok) :
    Calls Try.prog 3 #[.agg p.enc.toArray, .agg q.enc.toArray] w fun e w' => e = .returned (.bool true) ∧ Below w.heap.size w w' := by
  have hfw := hid (fun w => FitsWindow_S p q w hp hq)
  have hfi := hid (fun w => FitsWindow_I p q w hp hq)
  have ht := hid (toWindow_L p)
  have hf := hid (toFall_L q)
  generalize fits p.si p.su p.ea p.la q.ti q.fr = r at *
  obtain ⟨si, su, ea, la⟩ := p
  obtain ⟨ti, fr, by_⟩ := q
  simp only [Wn.enc, Fa.enc] at *
  go_enter Try.func3, Try.ntmps3
  go_wp2_with fail
  refine wp_region_later (by kernel_rfl) (by kernel_rfl) ?_
  have hL := @later_cell ((w.alloc (Obj.cells #[.int .u8 si, .bool su, .int .i64 ea, .int .i64 la] 23)).alloc (Obj.cells #[.int .i64 ti, .int .i8 fr, .int .i64 by_] 26))
  repeat (first | go_big_quiet_skip | (go_big_quiet_want; go_big_quiet_op; first | go_big_quiet_on | (apply Exists.intro; refine ⟨fun _ => ?_, ?_⟩; (first | (go_at_call 13; exact quiet_later (ht.out _)) | (go_at_call 14; exact quiet_later (hf.out _)) | (go_at_call 12; exact quiet_later (hfw.out _))); go_big_quiet_on)))
  refine wpQuiet_nil ?_
  intro x
  go_wp2_with fail
  have hz := x.below.size
  simp only [World.size_alloc] at hz
  have hz1 : w.heap.size < x.w.heap.size := by omega
  have hz2 : w.heap.size + 1 < x.w.heap.size := by omega
  refine wp_region_later (by kernel_rfl) (by kernel_rfl) ?_
  have hL2 := @later_cell x.w
  repeat (first | go_big_quiet_skip | (go_big_quiet_want; go_big_quiet_op; first | go_big_quiet_on | (apply Exists.intro; refine ⟨fun _ => ?_, ?_⟩; (first | (go_at_call 13; exact quiet_later (ht.out _)) | (go_at_call 14; exact quiet_later (hf.out _)) | (go_at_call 15; exact quiet_later (hfi.out _))); go_big_quiet_on)))
  refine wpQuiet_nil ?_
  intro y
  go_wp2_with fail
  all_goals go_ret
  exact ⟨rfl, below_of (below_of ((Below.refl _ _).alloc (Nat.le_refl _) _ |>.alloc (by simp) _) (by simp; omega) x.below) (by omega) y.below⟩
end Go.Proofs.Ytnoiendelcidbaa
