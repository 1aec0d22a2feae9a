/-
  SpansAround, both the program's and the reference's.
  Conditions: the fields are in their kinds' ranges.
-/
import Derived.Test.YtnabedhhflfepaaVSpans
namespace Go.Proofs.Ytnabedhhflfepaa
open Go.RowKit
set_option linter.unusedSimpArgs false
set_option linter.unusedVariables false

def aroundG (less more : Int) (p : Pc) : Sp := ⟨max (p.d - less) 1, min (p.d + more) 9⟩
theorem max_S (x y : Int) (w : World) :
    Calls Try.prog 20 #[.int .i64 x, .int .i64 y] w fun e w' => e = .returned (.int .i64 (max y x)) ∧ w = w' := by
  go_enter Try.func20, Try.ntmps20
  go_wp2
  all_goals go_ret
  all_goals exact ⟨ret_int (by omega), rfl⟩
theorem min_S (x y : Int) (w : World) :
    Calls Try.prog 38 #[.int .i64 x, .int .i64 y] w fun e w' => e = .returned (.int .i64 (min y x)) ∧ w = w' := by
  go_enter Try.func38, Try.ntmps38
  go_wp2
  all_goals go_ret
  all_goals exact ⟨ret_int (by omega), rfl⟩
set_option maxHeartbeats 400000 in
theorem around_S (b : Nat) (wi hi : Int) (a : Option Addr) (c : Nat) (xs : List Pc) (less more : Int) (w : World) (hb : BdA w b wi hi a xs.length c) (h : SlA Pc.enc 5 w a xs) (hs : xs.length ≤ 1048576) (hd : ∀ p ∈ xs, 1 ≤ p.d ∧ p.d ≤ 9) (l0 : 0 ≤ less) (l1 : less ≤ 9) (m0 : 0 ≤ more) (m1 : more ≤ 9) :
    Calls Try.prog 17 #[.pointer (some ⟨b, 0, none⟩), .int .i64 less, .int .i64 more] w (ResR Sp.enc 2 85 w (xs.map (aroundG less more))) := by
  have hbd := hb
  obtain ⟨g9, g0, g1, g2⟩ := hb
  go_enter Try.func17, Try.ntmps17
  go_wp2_with fail
  go_loopw [7, 8] (fun o i wr => ∃ (k : Nat) (A : Option Addr) (c1 : Nat), k ≤ xs.length ∧ i = .int .i64 k ∧ o = .slice A k c1 ∧ wr.ownsRow w.heap.size 85 2 (.slice A k c1) k (((xs.take k).map (aroundG less more)).flatMap Sp.enc) ∧ Below w.heap.size w wr) (fun _ i _ => xs.length - (intOf i).toNat)
  case atStart => exact ⟨0, _, _, Nat.zero_le _, rfl, rfl, by simpa using World.ownsRow_lit w #[] 0 (Nat.le_refl _) (by simp [maxLen]) (by simp), (Below.refl _ _).alloc (Nat.le_refl _) _⟩
  case round =>
    obtain ⟨k, A, c1, hk, rfl, rfl, own, hbl⟩ := hrel
    have k2 : wr.cell? ⟨b, 2, none⟩ = some (.slice a xs.length c) := (hbl.cell (p := ⟨b, _, none⟩) g9).trans g2
    by_cases hlt : k < xs.length
    · have hsw := h.below hbl
      obtain ⟨b1, o1, rfl, hb1, hc1⟩ := hsw.cells (by omega)
      have e1 : xs[k]? = some xs[k] := List.getElem?_eq_getElem hlt
      have dl := hd _ (List.getElem_mem hlt)
      have Hp := hid e1
      clear e1
      generalize xs[k] = p at *
      obtain ⟨d0, d1⟩ := dl
      have f4 : wr.cell? ⟨b1, o1 + k * 5 + 4, none⟩ = some (.int .i8 p.d) := hc1 k _ Hp.out 4 _ rfl
      have Hm := hid (fun W => max_S 1 (p.d - less) W)
      have Hn := hid (fun W => min_S 9 (p.d + more) W)
      obtain ⟨lo, hlo⟩ : ∃ lo, max (p.d - less) 1 = lo := ⟨_, rfl⟩
      obtain ⟨hi2, hhi⟩ : ∃ hi2, min (p.d + more) 9 = hi2 := ⟨_, rfl⟩
      rw [hlo] at Hm
      rw [hhi] at Hn
      have lo0 : 1 ≤ lo := by omega
      have lo1 : lo ≤ 9 := by omega
      have hi0 : 1 ≤ hi2 := by omega
      have hi1 : hi2 ≤ 9 := by omega
      have HG := hid (show aroundG less more p = ⟨lo, hi2⟩ by unfold aroundG; rw [hlo, hhi])
      have Ho := hid own
      have hz := hbl.size
      have HB := hid hbl
      clear hlo hhi hc1 hsw own hd hbl
      go_wp2_with (first | (go_at_call 20; refine (Hm.out _).mono ?_; rintro e w' ⟨rfl, rfl⟩) | (go_at_call 38; refine (Hn.out _).mono ?_; rintro e w' ⟨rfl, rfl⟩) | (at_builtin; refine app_one (w := wr) 48 85 (.agg Sp.z.enc.toArray) 2 2 Try.underlying48 (by kernel_rfl) rfl (by decide) w.heap.size _ k _ Ho.out ?c1 (by decide) hz [.int .i8 lo, .int .i8 hi2] _ _ rfl rfl rfl _ rfl ?c3 rfl (by intro u hu; simp at hu; rcases hu with rfl | rfl <;> rfl) ?_))
      case c1 => omega
      case c3 => rfl
      intro A2 c2 w2 own2 hb2 hg2 hat2
      have HR := hid own2
      have HB2 := hid (HB.out.trans hb2)
      clear own2 hb2 hg2 hat2
      go_wp2_with fail
      refine ⟨⟨k + 1, A2, c2, by omega, by go_num, rfl, ?_, HB2.out⟩, by simp [intOf]; omega⟩
      rw [List.take_add_one, Hp.out]
      simpa [HG.out, Sp.enc] using HR.out
    · obtain rfl : k = xs.length := by omega
      have Ho := hid own
      clear own
      go_wp2_with fail
      go_ret
      have own := Ho.out
      rw [List.take_length] at own
      exact ⟨A, c1, by simp, hbl, by simpa using own⟩
set_option maxHeartbeats 400000 in
theorem spansOf_I (b : Nat) (wi hi : Int) (a : Option Addr) (c : Nat) (xs : List Pc) (less more : Int) (w : World) (hb : BdA w b wi hi a xs.length c) (h : SlA Pc.enc 5 w a xs) (hs : xs.length ≤ 1048576) (hd : ∀ p ∈ xs, 1 ≤ p.d ∧ p.d ≤ 9) (l0 : 0 ≤ less) (l1 : less ≤ 9) (m0 : 0 ≤ more) (m1 : more ≤ 9) :
    Calls Try.prog 27 #[.pointer (some ⟨b, 0, none⟩), .int .i64 less, .int .i64 more] w (ResR Sp.enc 2 85 w (xs.map (aroundG less more))) := by
  have hbd := hb
  obtain ⟨g9, g0, g1, g2⟩ := hb
  go_enter Try.func27, Try.ntmps27
  go_wp2_with fail
  go_loopw [7, 17] (fun o i wr => ∃ (k : Nat) (A : Option Addr) (c1 : Nat), k ≤ xs.length ∧ i = .int .i64 k ∧ o = .slice A k c1 ∧ wr.ownsRow w.heap.size 85 2 (.slice A k c1) k (((xs.take k).map (aroundG less more)).flatMap Sp.enc) ∧ Below w.heap.size w wr) (fun _ i _ => xs.length - (intOf i).toNat)
  case atStart => exact ⟨0, _, _, Nat.zero_le _, rfl, rfl, by simpa using World.ownsRow_lit w #[] 0 (Nat.le_refl _) (by simp [maxLen]) (by simp), (Below.refl _ _).alloc (Nat.le_refl _) _⟩
  case round =>
    obtain ⟨k, A, c1, hk, rfl, rfl, own, hbl⟩ := hrel
    by_cases hlt : k < xs.length
    · have hsw := h.below hbl
      obtain ⟨b1, o1, rfl, hb1, hc1⟩ := hsw.cells (by omega)
      have e1 : xs[k]? = some xs[k] := List.getElem?_eq_getElem hlt
      have dl := hd _ (List.getElem_mem hlt)
      have Hp := hid e1
      clear e1
      generalize xs[k] = p at *
      obtain ⟨d0, d1⟩ := dl
      have f0 : wr.cell? ⟨b1, o1 + k * 5, none⟩ = some (.int .i8 p.x) := hc1 k _ Hp.out 0 _ rfl
      have f1 : wr.cell? ⟨b1, o1 + k * 5 + 1, none⟩ = some (.int .i8 p.y) := hc1 k _ Hp.out 1 _ rfl
      have f2 : wr.cell? ⟨b1, o1 + k * 5 + 2, none⟩ = some (.int .i8 p.k) := hc1 k _ Hp.out 2 _ rfl
      have f3 : wr.cell? ⟨b1, o1 + k * 5 + 3, none⟩ = some (.int .i8 p.t) := hc1 k _ Hp.out 3 _ rfl
      have f4 : wr.cell? ⟨b1, o1 + k * 5 + 4, none⟩ = some (.int .i8 p.d) := hc1 k _ Hp.out 4 _ rfl
      obtain ⟨lo, hlo⟩ : ∃ lo, max (p.d - less) 1 = lo := ⟨_, rfl⟩
      obtain ⟨hi2, hhi⟩ : ∃ hi2, min (p.d + more) 9 = hi2 := ⟨_, rfl⟩
      have hlo' : (if p.d - less < 1 then (1 : Int) else p.d - less) = lo := by split <;> omega
      have hhi' : (if 9 < p.d + more then (9 : Int) else p.d + more) = hi2 := by split <;> omega
      have lo0 : 1 ≤ lo := by omega
      have lo1 : lo ≤ 9 := by omega
      have hi0 : 1 ≤ hi2 := by omega
      have hi1 : hi2 ≤ 9 := by omega
      have HG := hid (show aroundG less more p = ⟨lo, hi2⟩ by unfold aroundG; rw [hlo, hhi])
      have Ho := hid own
      have hz := hbl.size
      have HB := hid hbl
      clear hc1 hsw own hd hbl
      go_wp2_with (at_builtin; refine app_one (w := wr.alloc _) 48 85 (.agg Sp.z.enc.toArray) 2 2 Try.underlying48 (by kernel_rfl) rfl (by decide) w.heap.size _ k _ (own_step Ho.out ((Below.refl _ _).alloc (Nat.le_refl _) _)) ?c1 (by decide) ?c2 [.int .i8 lo, .int .i8 hi2] _ _ rfl rfl rfl _ rfl ?c3 rfl (by intro u hu; simp at hu; rcases hu with rfl | rfl <;> rfl) ?_)
      case c1 => omega
      case c2 => simp; omega
      case c3 => simp
      intro A2 c2 w2 own2 hb2 hg2 hat2
      have HR := hid own2
      have HB2 := hid ((HB.out.alloc hz _).trans hb2)
      clear own2 hb2 hg2 hat2
      go_wp2_with fail
      refine ⟨⟨k + 1, A2, c2, by omega, by go_num, rfl, ?_, HB2.out⟩, by simp [intOf]; omega⟩
      rw [List.take_add_one, Hp.out]
      simpa [HG.out, Sp.enc] using HR.out
    · obtain rfl : k = xs.length := by omega
      have Ho := hid own
      clear own
      go_wp2_with fail
      go_ret
      have own := Ho.out
      rw [List.take_length] at own
      exact ⟨A, c1, by simp, hbl, by simpa using own⟩
theorem isDelay_I (n : Int) (w : World) :
    Calls Try.prog 25 #[.int .i64 n] w fun e w' => e = .returned (.bool (inB n 0 9)) ∧ w = w' := by
  go_enter Try.func25, Try.ntmps25
  go_wp2_with (go_at_call 48; refine (in_I _ _ _ _).mono ?_; rintro e w' ⟨rfl, rfl⟩)
  go_ret
  exact ⟨rfl, rfl⟩
def SpansAroundG (wi hi : Int) (xs : List Pc) (less more : Int) : List Sp × Int :=
  if bdOk wi hi xs = true then (if 60 < xs.length then ([], 3) else if (inB less 0 9 && inB more 0 9) = true then (xs.map (aroundG less more), 0) else ([], 2)) else ([], 1)
theorem SpansAround_len (wi hi : Int) (xs : List Pc) (less more : Int) (h : xs.length ≤ 1048576) : (SpansAroundG wi hi xs less more).1.length ≤ 1048576 := by
  unfold SpansAroundG
  split
  · split
    · simp
    · split
      · simpa using h
      · simp
  · simp
theorem delays_of {wi hi : Int} {xs : List Pc} (h : bdOk wi hi xs = true) : ∀ p ∈ xs, 1 ≤ p.d ∧ p.d ≤ 9 := by
  intro p hp
  unfold bdOk at h
  simp only [Bool.and_eq_true, List.all_eq_true, List.mem_range] at h
  obtain ⟨_, _, _, h⟩ := h
  obtain ⟨k, hk, rfl⟩ := List.mem_iff_getElem.1 hp
  have h1 := h k hk
  unfold okAt at h1
  rw [List.getElem?_eq_getElem hk] at h1
  simp only [Bool.and_eq_true, pcOk, inB, decide_eq_true_eq] at h1
  obtain ⟨⟨_, _, h2, _⟩, _⟩ := h1
  exact h2
end Go.Proofs.Ytnabedhhflfepaa
