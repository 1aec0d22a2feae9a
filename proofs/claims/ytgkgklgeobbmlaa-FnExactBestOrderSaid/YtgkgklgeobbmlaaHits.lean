/-
  From which sides a piece falls, and what it hits: the reference's.
  Conditions: the piece is right, the side is one.
-/
import Derived.Test.YtgkgklgeobbmlaaBoard
import Derived.Deep.QuietTactic
import Derived.Deep.WholeRow
import Derived.Deep.CutRange
import Derived.Great.BuildSlice
namespace Go.Proofs.Ytgkgklgeobbmlaa
open Go.RowKit
set_option linter.unusedSimpArgs false
set_option linter.unusedVariables false

def tab (k d : Int) : Int :=
  if k = 0 then (if d = 1 then 8 else if d = 3 then 2 else -1)
  else if k = 1 then (if d = 2 then 8 else if d = 3 then 4 else -1)
  else if k = 2 then (if d = 0 then 12 else if d = 1 then -1 else if d = 2 then 9 else 5)
  else if k = 3 then (if d = 3 then 2 else -1)
  else if k = 4 then (if d = 1 then 8 else if d = 3 then 2 else 0)
  else (if d = 0 then 4 else if d = 1 then 8 else if d = 2 then 1 else 2)
def bitI (v : Int) (j : Nat) : Bool := decide (v / 2 ^ j % 2 = 1)
def rotTo (v t : Int) : Nat → Int
  | 0 => 0
  | j + 1 => rotTo v t j + (if bitI v j = true then 2 ^ (((j : Int) + t) % 4).toNat else 0)
def hitsG (k t s : Int) : Int := if tab k ((s + 4 - t) % 4) < 0 then -1 else rotTo (tab k ((s + 4 - t) % 4)) t 4
def rowV (k : Int) : Value := .agg #[.int .i64 (tab k 0), .int .i64 (tab k 1), .int .i64 (tab k 2), .int .i64 (tab k 3)]
def tabV : Value := .agg #[.int .i64 (-1), .int .i64 8, .int .i64 (-1), .int .i64 2, .int .i64 (-1), .int .i64 (-1), .int .i64 8, .int .i64 4, .int .i64 12, .int .i64 (-1), .int .i64 9, .int .i64 5, .int .i64 (-1), .int .i64 (-1), .int .i64 (-1), .int .i64 2, .int .i64 0, .int .i64 8, .int .i64 0, .int .i64 2, .int .i64 4, .int .i64 8, .int .i64 1, .int .i64 2]
theorem tab_in {k d : Int} : -1 ≤ tab k d ∧ tab k d ≤ 15 := by
  unfold tab
  repeat' split
  all_goals omega
theorem rotTo_in (v t : Int) : ∀ k : Nat, 0 ≤ rotTo v t k ∧ rotTo v t k ≤ 8 * k
  | 0 => by simp [rotTo]
  | k + 1 => by
    have ih := rotTo_in v t k
    have h : (((k : Int) + t) % 4).toNat = 0 ∨ (((k : Int) + t) % 4).toNat = 1 ∨ (((k : Int) + t) % 4).toNat = 2 ∨ (((k : Int) + t) % 4).toNat = 3 := by omega
    unfold rotTo
    rcases h with h | h | h | h <;> rw [h] <;> split <;> simp <;> omega
theorem leafT (r : Int) (n : Nat) (hr : 0 ≤ r ∧ r ≤ 100) (hn : n ≤ 3) : wrap64 (r + wrap64 (2 ^ n)) = r + 2 ^ n := by
  have h : n = 0 ∨ n = 1 ∨ n = 2 ∨ n = 3 := by omega
  have hp : (0 : Int) ≤ 2 ^ n ∧ (2 : Int) ^ n ≤ 8 := by rcases h with rfl | rfl | rfl | rfl <;> simp
  generalize (2 : Int) ^ n = q at *
  rw [IntWalk.wrap64_in q (by omega), IntWalk.wrap64_in _ (by omega)]
theorem results_cell {P : Program} {fn : Func} {tmps : Array Value} {w : World} {t : TypeId} {ad : Addr} {v : Value} (h : fn.results = #[.cell 0 t]) (ht : tmps.getD 0 undef = .pointer (some ad)) (hl : (loadVar t ad).run P w = .ok v w) :
    (results fn tmps).run P w = .ok v w := by
  unfold results
  rw [h]
  have e : tmps[0]?.getD undef = .pointer (some ad) := by rw [← ht]; simp
  simp [e, asAddr, hl]
theorem table_S (w : World) : Calls Try.prog 117 #[] w fun e w' => e = .returned tabV ∧ Below w.heap.size w w' := by
  have HL := hid (fun (z : Array Value) => heap_alloc_last w (Obj.cells z 154))
  go_enter Try.func117, Try.ntmps117
  go_upto_region 1 with fail
  apply wp_region_lit
  refine wpList_buildTo rfl 153 _ rfl (some 1) rfl #[.int .i64 (-1), .int .i64 8, .int .i64 (-1), .int .i64 2] (by kernel_rfl) ?_
  refine wpList_buildTo rfl 153 _ rfl (some 2) rfl #[.int .i64 (-1), .int .i64 (-1), .int .i64 8, .int .i64 4] (by kernel_rfl) ?_
  refine wpList_buildTo rfl 153 _ rfl (some 3) rfl #[.int .i64 12, .int .i64 (-1), .int .i64 9, .int .i64 5] (by kernel_rfl) ?_
  refine wpList_buildTo rfl 153 _ rfl (some 4) rfl #[.int .i64 (-1), .int .i64 (-1), .int .i64 (-1), .int .i64 2] (by kernel_rfl) ?_
  refine wpList_buildTo rfl 153 _ rfl (some 5) rfl #[.int .i64 0, .int .i64 8, .int .i64 0, .int .i64 2] (by kernel_rfl) ?_
  refine wpList_buildTo rfl 153 _ rfl (some 6) rfl #[.int .i64 4, .int .i64 8, .int .i64 1, .int .i64 2] (by kernel_rfl) ?_
  refine wpList_buildTo rfl 154 _ rfl (some 7) rfl #[.int .i64 (-1), .int .i64 8, .int .i64 (-1), .int .i64 2, .int .i64 (-1), .int .i64 (-1), .int .i64 8, .int .i64 4, .int .i64 12, .int .i64 (-1), .int .i64 9, .int .i64 5, .int .i64 (-1), .int .i64 (-1), .int .i64 (-1), .int .i64 2, .int .i64 0, .int .i64 8, .int .i64 0, .int .i64 2, .int .i64 4, .int .i64 8, .int .i64 1, .int .i64 2] (by kernel_rfl) ?_
  refine wpList_store_rowTo rfl 154 _ _ rfl rfl w.heap.size #[.int .i64 (-1), .int .i64 8, .int .i64 (-1), .int .i64 2, .int .i64 (-1), .int .i64 (-1), .int .i64 8, .int .i64 4, .int .i64 12, .int .i64 (-1), .int .i64 9, .int .i64 5, .int .i64 (-1), .int .i64 (-1), .int .i64 (-1), .int .i64 2, .int .i64 0, .int .i64 8, .int .i64 0, .int .i64 2, .int .i64 4, .int .i64 8, .int .i64 1, .int .i64 2] (by rfl) (by rfl) 154 _ (HL.out _) (by kernel_rfl) (by rfl) (by kernel_rfl) ?_
  apply wpList_nil
  rw [World.setRow_alloc_new]
  go_wp2_with fail
  have hz := run_loadVar_new (P := Try.prog) w 154 #[.int .i64 (-1), .int .i64 8, .int .i64 (-1), .int .i64 2, .int .i64 (-1), .int .i64 (-1), .int .i64 8, .int .i64 4, .int .i64 12, .int .i64 (-1), .int .i64 9, .int .i64 5, .int .i64 (-1), .int .i64 (-1), .int .i64 (-1), .int .i64 2, .int .i64 0, .int .i64 8, .int .i64 0, .int .i64 2, .int .i64 4, .int .i64 8, .int .i64 1, .int .i64 2] 6 153 Try.underlying154 (by kernel_rfl)
  refine bodyPost_ret (v := tabV) ?_ rfl ⟨rfl, (Below.refl _ _).alloc (Nat.le_refl _) _⟩
  exact results_cell Try.results117 (by rfl) hz
theorem tabRow (W : World) (k : Int) (h0 : 0 ≤ k) (h1 : k ≤ 5) : (Instr.index 154 tabV (.int .i8 k)).run Try.prog W = .ok (rowV k) W := by
  obtain rfl | rfl | rfl | rfl | rfl | rfl : k = 0 ∨ k = 1 ∨ k = 2 ∨ k = 3 ∨ k = 4 ∨ k = 5 := by omega
  all_goals kernel_rfl
theorem rowAt (W : World) (k d : Int) (h0 : 0 ≤ d) (h1 : d ≤ 3) : (Instr.index 153 (rowV k) (.int .i64 d)).run Try.prog W = .ok (.int .i64 (tab k d)) W := by
  obtain rfl | rfl | rfl | rfl : d = 0 ∨ d = 1 ∨ d = 2 ∨ d = 3 := by omega
  all_goals (unfold rowV; generalize tab k 0 = a0; generalize tab k 1 = a1; generalize tab k 2 = a2; generalize tab k 3 = a3; kernel_rfl)
set_option maxRecDepth 100000 in
set_option maxHeartbeats 1000000 in
theorem hits_S (b o : Nat) (k t s : Int) (w : World) (hk : 0 ≤ k ∧ k ≤ 5) (ht : 0 ≤ t ∧ t ≤ 3) (hs : 0 ≤ s ∧ s ≤ 3) (hb : b < w.heap.size) (f2 : w.cell? ⟨b, o + 2, none⟩ = some (.int .i8 k)) (f3 : w.cell? ⟨b, o + 3, none⟩ = some (.int .i8 t)) :
    Calls Try.prog 107 #[.pointer (some ⟨b, o, none⟩), .int .i64 s] w fun e w' => e = .returned (.int .i64 (hitsG k t s)) ∧ Below w.heap.size w w' := by
  obtain ⟨hk0, hk1⟩ := hk
  obtain ⟨ht0, ht1⟩ := ht
  obtain ⟨hs0, hs1⟩ := hs
  have HT := hid (fun (X : Later w) => table_S X.w)
  have i1 := fun W => tabRow W k hk0 hk1
  obtain ⟨d, hd⟩ : ∃ d : Int, (s + 4 - t) % 4 = d := ⟨_, rfl⟩
  have hd' : (s + 4 - t).tmod 4 = d := by rw [← hd, Int.tmod_eq_emod_of_nonneg (by omega)]
  have hd0 : 0 ≤ d := by omega
  have hd1 : d ≤ 3 := by omega
  have i2 := fun W => rowAt W k d hd0 hd1
  have HG := hid (show hitsG k t s = if tab k d < 0 then -1 else rotTo (tab k d) t 4 by unfold hitsG; rw [hd])
  have HV := hid (tab_in (k := k) (d := d))
  obtain ⟨v, hv⟩ : ∃ v, tab k d = v := ⟨_, rfl⟩
  rw [hv] at HG HV i2
  clear hd hv
  have hL := @later_cell w
  go_enter Try.func107, Try.ntmps107
  go_wp2_with fail
  refine wp_region_later (by kernel_rfl) (by kernel_rfl) ?_
  repeat (first | go_big_quiet_skip | (go_big_quiet_want; go_big_quiet_op; first | go_big_quiet_on | (apply Exists.intro; refine ⟨fun _ => ?_, ?_⟩; (go_at_call 117; exact quiet_later (HT.out _)); go_big_quiet_on)))
  refine wpQuiet_nil ?_
  rintro ⟨w1, hb1⟩
  dsimp only
  obtain ⟨hv0, hv1⟩ := HV.out
  by_cases hneg : v < 0
  · go_wp2_with fail
    go_ret
    exact ⟨ret_int (by rw [HG.out, if_pos hneg]), hb1⟩
  · have hdn : decide (v < 0) = false := by rw [decide_eq_false_iff_not]; exact hneg
    have HG2 := hid (show hitsG k t s = rotTo v t 4 by rw [HG.out, if_neg hneg])
    clear HG HT i1 i2 hL
    go_wp2_with fail
    go_loop [7, 8] (fun ov kv => ∃ k : Nat, k ≤ 4 ∧ kv = .int .i64 k ∧ ov = .int .i64 (rotTo v t k)) (fun _ kv => 4 - (intOf kv).toNat)
    case atStart => exact ⟨0, Nat.zero_le _, rfl, rfl⟩
    case round =>
      obtain ⟨k, hk, rfl, rfl⟩ := hrel
      by_cases hlt : k < 4
      · obtain ⟨r, hr⟩ : ∃ r, rotTo v t k = r := ⟨_, rfl⟩
        have HR := hid (show rotTo v t (k + 1) = r + (if bitI v k = true then 2 ^ (((k : Int) + t) % 4).toNat else 0) by rw [← hr]; rfl)
        have HB := hid (show 0 ≤ r ∧ r ≤ 100 by have := rotTo_in v t k; omega)
        rw [hr]
        clear hr
        have hk4 : k = 0 ∨ k = 1 ∨ k = 2 ∨ k = 3 := by omega
        rcases hk4 with rfl | rfl | rfl | rfl
        · go_wp2_with fail
          · rename_i hb
            have hbf : bitI v 0 = true := by unfold bitI; simpa using hb
            have := HR.out
            rw [hbf, if_pos rfl] at this
            refine ⟨⟨1, by omega, rfl, ?_⟩, by simp [intOf]⟩
            rw [this, leafT _ _ HB.out (by omega)]
            simp
          · rename_i hb
            have hbf : bitI v 0 = false := by unfold bitI; simpa using hb
            have := HR.out
            rw [hbf] at this
            refine ⟨⟨1, by omega, rfl, ?_⟩, by simp [intOf]⟩
            rw [this]; simp
        · go_wp2_with fail
          · rename_i hb
            have hbf : bitI v 1 = true := by unfold bitI; simpa using hb
            have := HR.out
            rw [hbf, if_pos rfl] at this
            refine ⟨⟨2, by omega, rfl, ?_⟩, by simp [intOf]⟩
            rw [this, leafT _ _ HB.out (by omega)]
            simp
          · rename_i hb
            have hbf : bitI v 1 = false := by unfold bitI; simpa using hb
            have := HR.out
            rw [hbf] at this
            refine ⟨⟨2, by omega, rfl, ?_⟩, by simp [intOf]⟩
            rw [this]; simp
        · go_wp2_with fail
          · rename_i hb
            have hbf : bitI v 2 = true := by unfold bitI; simpa using hb
            have := HR.out
            rw [hbf, if_pos rfl] at this
            refine ⟨⟨3, by omega, rfl, ?_⟩, by simp [intOf]⟩
            rw [this, leafT _ _ HB.out (by omega)]
            simp
          · rename_i hb
            have hbf : bitI v 2 = false := by unfold bitI; simpa using hb
            have := HR.out
            rw [hbf] at this
            refine ⟨⟨3, by omega, rfl, ?_⟩, by simp [intOf]⟩
            rw [this]; simp
        · go_wp2_with fail
          · rename_i hb
            have hbf : bitI v 3 = true := by unfold bitI; simpa using hb
            have := HR.out
            rw [hbf, if_pos rfl] at this
            refine ⟨⟨4, by omega, rfl, ?_⟩, by simp [intOf]⟩
            rw [this, leafT _ _ HB.out (by omega)]
            simp
          · rename_i hb
            have hbf : bitI v 3 = false := by unfold bitI; simpa using hb
            have := HR.out
            rw [hbf] at this
            refine ⟨⟨4, by omega, rfl, ?_⟩, by simp [intOf]⟩
            rw [this]; simp
      · obtain rfl : k = 4 := by omega
        go_wp2_with fail
        go_ret
        exact ⟨ret_int HG2.out.symm, hb1⟩
end Go.Proofs.Ytgkgklgeobbmlaa
