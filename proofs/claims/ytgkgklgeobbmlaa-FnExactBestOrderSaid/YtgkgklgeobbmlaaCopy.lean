/-
  A copy of a board, the reference's; a copy of a list of pieces, the program's.
  Conditions: the fields are in their kinds' ranges.
-/
import Derived.Test.YtgkgklgeobbmlaaSafeA
import Derived.Test.YtgkgklgeobbmlaaWithoutI
namespace Go.Proofs.Ytgkgklgeobbmlaa
open Go.RowKit
set_option linter.unusedSimpArgs false
set_option linter.unusedVariables false

set_option maxRecDepth 100000 in
set_option maxHeartbeats 400000 in
theorem copy_S (b : Nat) (wi hi : Int) (a : Option Addr) (c : Nat) (xs : List Pc) (w : World) (hs : xs.length ≤ 1048576) (hb : BdA w b wi hi a xs.length c) (h : SlA Pc.enc 5 w a xs) (hnc : a = none → c = 0) :
    Calls Try.prog 78 #[.pointer (some ⟨b, 0, none⟩)] w (ResBd w wi hi xs) := by
  have hbd := hb
  obtain ⟨g9, g0, g1, g2⟩ := hb
  have hbn : b ≠ w.heap.size := by omega
  have hnb : w.heap.size ≠ b := by omega
  obtain ⟨W0, hW0⟩ : ∃ W, W = w.alloc (Obj.cells #[.int .i8 0, .int .i8 0, .slice none 0 0] 32) := ⟨_, rfl⟩
  have B0 : Below w.heap.size w W0 := by rw [hW0]; exact (Below.refl _ _).alloc (Nat.le_refl _) _
  have hr0 : BoxB W0 w.heap.size 0 0 none 0 0 := by rw [hW0]; exact ⟨⟨by simp, by simp [go_sem], by simp [go_sem], by simp [go_sem]⟩, by simp [go_sem], by simp [go_sem], by simp [go_sem]⟩
  have hz0 : W0.heap.size = w.heap.size + 1 := by rw [hW0]; simp
  have HF := hid (fun W (hB : Below w.heap.size w W) => (h.below hB).flat Pc.enc_length)
  have Hnil := hid (show xs.length = 0 → a = none ∧ c = 0 ∨ a ≠ none from fun _ => by
    by_cases e : a = none
    · exact .inl ⟨e, hnc e⟩
    · exact .inr e)
  have k0 : W0.cell? ⟨b, 0, none⟩ = some (.int .i8 wi) := (B0.cell (p := ⟨b, _, none⟩) g9).trans g0
  have k1 : W0.cell? ⟨b, 1, none⟩ = some (.int .i8 hi) := (B0.cell (p := ⟨b, _, none⟩) g9).trans g1
  have k2 : W0.cell? ⟨b, 2, none⟩ = some (.slice a xs.length c) := (B0.cell (p := ⟨b, _, none⟩) g9).trans g2
  have hbW : b ≠ W0.heap.size := by omega
  have Hl := hid (flatMap_len Pc.enc_length xs)
  have H1 := hid (oneCell_flat (en := Pc.enc) (fun p u hu => by simp [Pc.enc] at hu; rcases hu with rfl | rfl | rfl | rfl | rfl <;> rfl) xs)
  have Hby : (0 + xs.length) * 5 ≤ 140737488355328 := by omega
  have HR := hid hr0
  have HB := hid B0
  have HO0 := hid (show ((W0.alloc (Obj.cells #[] 98)).drew).ownsRow (w.heap.size + 1) 98 5 (.slice (some ⟨w.heap.size + 1, 0, none⟩) 0 0) 0 [] by rw [← hz0]; exact (World.ownsRow_lit W0 #[] 0 (Nat.le_refl _) (by simp [maxLen]) (by simp)).drew)
  have HS0 := hid (show w.heap.size + 1 ≤ ((W0.alloc (Obj.cells #[] 98)).drew).heap.size by simp; omega)
  have HBW := hid ((B0.alloc (by omega) (Obj.cells #[] 98)).drew)
  have HRW := hid (hr0.below (((Below.refl W0.heap.size W0).alloc (Nat.le_refl _) (Obj.cells #[] 98)).drew) hr0.bd.lt)
  have hinf : (Try.prog.info? 98).map (fun i => (i.zero, i.size, i.bytes)) = some (some (.agg Pc.z.enc.toArray), 5, 5) := by kernel_rfl
  have Hinf := hid hinf
  clear hinf hr0 B0
  go_enter Try.func78, Try.ntmps78
  go_wp2_with fail
  rw [← hW0]
  clear hW0
  go_region_held3 (fun w' => w'.cell? ⟨b, 0, none⟩ = some (.int .i8 wi) ∧ w'.cell? ⟨b, 1, none⟩ = some (.int .i8 hi) ∧ w'.cell? ⟨b, 2, none⟩ = some (.slice a xs.length c))
    (first | (refine ⟨?_, ?_, ?_⟩ <;> assumption) | go_keep)
    ((refine step_app_many (by rfl) _ _ 30 (by rfl) (w.heap.size + 1) 98 (.agg Pc.z.enc.toArray) 5 5 Try.underlying30 Hinf.out rfl (by decide) _ 0 [] (by rfl) HO0.out a xs.length c (xs.flatMap Pc.enc) (by rfl) Hl.out (HF.out _ HBW.out) H1.out Hnil.out Hby (by decide) HS0.out ?_
      intro v1 w1 own1 hgrow
      obtain ⟨A1, c1, rfl⟩ := own_slice own1
      have BW1 := HBW.out.grown hgrow (by have := HS0.out; omega) (fun k hk => by simp [Value.ownBlock] at hk; omega)
      have y0 := (BW1.cell (p := ⟨b, 0, none⟩) g9).trans g0
      have y1 := (BW1.cell (p := ⟨b, 1, none⟩) g9).trans g1
      have y2 := (BW1.cell (p := ⟨b, 2, none⟩) g9).trans g2
      have RW1 := HRW.out.kept hgrow (by simp [Value.ownBlock])
      obtain ⟨⟨r9, r0, r1, r2⟩, z0, z1, z2⟩ := RW1
      have Ho := hid own1
      have HB1 := hid BW1
      clear own1 hgrow BW1))
  go_wp2_with fail
  refine bodyPost_ret (v := .agg #[.int .i8 wi, .int .i8 hi, .slice A1 xs.length c1]) (by simp [results, Try.results78, go_sem, r0, r1, r2, r9]) rfl ⟨A1, c1, rfl, ?_, ?_⟩
  · repeat (refine Below.setCell ?_ (by simp; try omega) _)
    exact HB1.out
  · have own := Ho.out
    simp only [Nat.zero_add, List.nil_append] at own
    repeat (refine World.ownsRow.kept (row := some w.heap.size) ?_ (setCell_grown _ _ _ _) (.inr (fun e => by have := (own.lt _ e).1; omega)))
    exact own_low own (by omega)
theorem clone_Pc_L (a : Option Addr) (c : Nat) (xs : List Pc) (w : World) (h : SlA Pc.enc 5 w a xs) (hc : a = none → c = 0) (hs : xs.length ≤ 1048576) :
    Calls Try.prog 81 #[.slice a xs.length c] w fun e w' => ∃ A c', e = .returned (.slice A xs.length c') ∧ Below w.heap.size w w' ∧ w'.ownsRow w.heap.size 98 5 (.slice A xs.length c') xs.length (xs.flatMap Pc.enc) := by
  cases a with
  | none =>
    have h0 : xs.length = 0 := by
      rcases Nat.eq_zero_or_pos xs.length with h0 | h0
      · exact h0
      · obtain ⟨_, _, e, _⟩ := h.cells h0
        cases e
    obtain rfl : xs = [] := List.eq_nil_of_length_eq_zero h0
    obtain rfl : c = 0 := hc rfl
    clear h hc h0 hs
    simp only [List.length_nil]
    have q41 : ∀ (w : World) (a : Option Addr) (n c n' c' : Nat), (binOp .eql 30 (.slice a n c) (.slice none n' c')).run Try.prog w = .ok (.bool a.isNone) w := fun w a n c n' c' => Lib.run_eql_slice_nil w _ _ a n c n' c' Try.underlying30
    go_enter Try.func81, Try.ntmps81
    go_wp2_with fail
    go_ret
    exact ⟨none, 0, rfl, Below.refl _ _, World.ownsRow_nil _ _ _ _⟩
  | some ad =>
    have q41 : ∀ (w : World) (a : Option Addr) (n c n' c' : Nat), (binOp .eql 30 (.slice a n c) (.slice none n' c')).run Try.prog w = .ok (.bool a.isNone) w := fun w a n c n' c' => Lib.run_eql_slice_nil w _ _ a n c n' c' Try.underlying30
    have H := hid (fun o => (h.below ((Below.refl _ _).alloc (Nat.le_refl _) o) : SlA Pc.enc 5 (w.alloc o) (some ad) xs).flat Pc.enc_length)
    clear h hc
    go_enter Try.func81, Try.ntmps81
    go_wp2_with (at_builtin; refine app_many rfl _ _ 30 rfl w.heap.size 98 (.agg Pc.z.enc.toArray) 5 5 Try.underlying30 (by kernel_rfl) rfl (by decide) _ 0 [] rfl (World.ownsRow_lit w #[] 0 (Nat.le_refl _) (by simp [maxLen]) (by simp)) (some ad) xs.length c (xs.flatMap Pc.enc) rfl ?c1 (H.out _) ?c2 ?c3 ?c4 (by decide) ?c5 ?_)
    case c1 => exact flatMap_len Pc.enc_length xs
    case c2 => exact oneCell_flat (fun p u hu => by simp [Pc.enc] at hu; rcases hu with rfl | rfl | rfl | rfl | rfl <;> rfl) xs
    case c3 => exact fun _ => .inr (by simp)
    case c4 => omega
    case c5 => simp
    intro v1 w1 own1 hg1 hat
    try simp only [Nat.zero_add, List.nil_append] at own1
    obtain ⟨A1, c1, rfl⟩ := own_slice own1
    have Ho := hid own1
    have Hg := hid hg1
    clear own1 hg1 hat q41
    go_wp2_with fail
    go_ret
    exact ⟨A1, c1, rfl, ((Below.refl _ _).alloc (Nat.le_refl _) _).grown Hg.out (by simp) (by simp [Value.ownBlock]), Ho.out⟩
end Go.Proofs.Ytgkgklgeobbmlaa
