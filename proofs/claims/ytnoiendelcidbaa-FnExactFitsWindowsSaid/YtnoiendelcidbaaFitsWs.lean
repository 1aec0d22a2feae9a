/-
  FitsWindows, both the program's and the reference's.
  Conditions: the fields are in their kinds' ranges.
-/
import Derived.Test.YtnoiendelcidbaaFits
namespace Go.Proofs.Ytnoiendelcidbaa
open Go.RowKit
set_option linter.unusedSimpArgs false
set_option linter.unusedVariables false

def misfit (x : Wn × Fa) : Bool := !fits x.1.si x.1.su x.1.ea x.1.la x.2.ti x.2.fr
def FitsWindowsG (xs : List Wn) (ys : List Fa) : Int × Int :=
  if xs.length ≠ ys.length then (0, 2) else if idxOf misfit (xs.zip ys) < 0 then (0, 6) else (idxOf misfit (xs.zip ys), 0)
set_option maxHeartbeats 1000000 in
theorem FitsWindows_S (w : World) (a : Option Addr) (c : Nat) (xs : List Wn) (ha : SlA Wn.enc 4 w a xs) (_ : a = none → c = 0) (oka : ∀ p ∈ xs, p.Ok) (_ : xs.length ≤ 1048576) (b : Option Addr) (d : Nat) (ys : List Fa) (hb : SlA Fa.enc 3 w b ys) (_ : b = none → d = 0) (okb : ∀ p ∈ ys, p.Ok) (_ : ys.length ≤ 1048576) :
    Calls Try.prog 29 #[.slice a xs.length c, .slice b ys.length d] w fun e w' => e = .returned (.tuple #[.int .i64 (FitsWindowsG xs ys).1, .int .i64 (FitsWindowsG xs ys).2]) ∧ Below w.heap.size w w' := by
  have sa := ha.small
  have sb := hb.small
  by_cases hl : xs.length = ys.length
  · have hl1 : ((xs.length : Int) != ys.length) = false := by simp [hl]
    obtain ⟨r, hr⟩ : ∃ r, FitsWindowsG xs ys = r := ⟨_, rfl⟩
    have Hr := hid hr
    rw [hr]
    clear hr
    go_enter Try.func29, Try.ntmps29
    go_wp2_with fail
    go_loopw [6] (fun i wr => ∃ k : Nat, k ≤ xs.length ∧ i = .int .i64 k ∧ ((xs.zip ys).take k).any misfit = false ∧ Below w.heap.size w wr) (fun i _ => xs.length - (intOf i).toNat)
    case atStart => exact ⟨0, Nat.zero_le _, rfl, rfl, Below.refl _ _⟩
    case round =>
      obtain ⟨k, hk, rfl, ht, hbl⟩ := hrel
      by_cases hlt : k < xs.length
      · obtain ⟨b1, o1, rfl, hb1, hc1⟩ := ha.cells (by omega)
        obtain ⟨b2, o2, rfl, hb2, hc2⟩ := hb.cells (by omega)
        have hly : k < ys.length := by omega
        have e1 : xs[k]? = some xs[k] := List.getElem?_eq_getElem hlt
        have e2 : ys[k]? = some ys[k] := List.getElem?_eq_getElem hly
        have Hz := hid (show (xs.zip ys)[k]? = some (xs[k], ys[k]) by rw [List.getElem?_zip_eq_some]; exact ⟨e1, e2⟩)
        have okp := oka _ (List.getElem_mem hlt)
        have okq := okb _ (List.getElem_mem hly)
        have Hp := hid e1
        have Hq := hid e2
        have HT := hid ht
        have HL := hid hl
        clear ht hl e1 e2
        generalize xs[k] = p at *
        generalize ys[k] = q at *
        have f0 : wr.cell? ⟨b1, o1 + k * 4, none⟩ = some (.int .u8 p.si) := (hbl.cell (p := ⟨b1, _, none⟩) hb1).trans (hc1 k _ Hp.out 0 _ rfl)
        have f1 : wr.cell? ⟨b1, o1 + k * 4 + 1, none⟩ = some (.bool p.su) := (hbl.cell (p := ⟨b1, _, none⟩) hb1).trans (hc1 k _ Hp.out 1 _ rfl)
        have f2 : wr.cell? ⟨b1, o1 + k * 4 + 2, none⟩ = some (.int .i64 p.ea) := (hbl.cell (p := ⟨b1, _, none⟩) hb1).trans (hc1 k _ Hp.out 2 _ rfl)
        have f3 : wr.cell? ⟨b1, o1 + k * 4 + 3, none⟩ = some (.int .i64 p.la) := (hbl.cell (p := ⟨b1, _, none⟩) hb1).trans (hc1 k _ Hp.out 3 _ rfl)
        have g0 : wr.cell? ⟨b2, o2 + k * 3, none⟩ = some (.int .i64 q.ti) := (hbl.cell (p := ⟨b2, _, none⟩) hb2).trans (hc2 k _ Hq.out 0 _ rfl)
        have g1 : wr.cell? ⟨b2, o2 + k * 3 + 1, none⟩ = some (.int .i8 q.fr) := (hbl.cell (p := ⟨b2, _, none⟩) hb2).trans (hc2 k _ Hq.out 1 _ rfl)
        have g2 : wr.cell? ⟨b2, o2 + k * 3 + 2, none⟩ = some (.int .i64 q.by_) := (hbl.cell (p := ⟨b2, _, none⟩) hb2).trans (hc2 k _ Hq.out 2 _ rfl)
        have hz := hbl.size
        have hb1w : b1 < wr.heap.size := by omega
        have hb2w : b2 < wr.heap.size := by omega
        have Hs := hid (fun W => FitsWindow_S p q W okp okq)
        obtain ⟨f, hf⟩ : ∃ f, fits p.si p.su p.ea p.la q.ti q.fr = f := ⟨_, rfl⟩
        rw [hf] at Hs
        have Hf := hid hf
        clear hc1 hc2 okp okq hf
        have hL := @later_cell wr
        go_wp2_with fail
        refine wp_region_later (by kernel_rfl) (by kernel_rfl) ?_
        repeat (first | go_big_quiet_skip | (go_big_quiet_want; go_big_quiet_op; first | go_big_quiet_on | (apply Exists.intro; refine ⟨fun _ => ?_, ?_⟩; (go_at_call 12; exact quiet_later (Hs.out _)); go_big_quiet_on)))
        refine wpQuiet_nil ?_
        intro x
        have Bx := below_of hbl hz x.below
        cases f
        · go_wp2_with fail
          go_ret2
          refine ⟨?_, Bx⟩
          rw [← Hr.out]
          unfold FitsWindowsG
          rw [if_neg (by rw [HL.out]; simp), idxOf_at HT.out Hz.out (by simp [misfit, Hf.out])]
          rw [if_neg (by omega)]
          rfl
        · go_wp2_with fail
          exact ⟨⟨k + 1, by omega, by go_num, any_step HT.out Hz.out (by simp [misfit, Hf.out]), Bx⟩, by simp [intOf]; omega⟩
      · obtain rfl : k = xs.length := by omega
        have h7 : ys.length ≤ xs.length := by omega
        have HT := hid ht
        have HL := hid hl
        clear ht hl
        go_wp2_with fail
        go_ret2
        refine ⟨?_, hbl⟩
        rw [← Hr.out]
        unfold FitsWindowsG
        have := HT.out
        rw [List.take_of_length_le (by rw [List.length_zip]; omega)] at this
        rw [if_neg (by rw [HL.out]; simp), idxOf_none this]
        simp
  · have hl1 : ((xs.length : Int) != ys.length) = true := by rw [bne_iff_ne]; omega
    have G : FitsWindowsG xs ys = (0, 2) := by unfold FitsWindowsG; rw [if_pos hl]
    rw [G]
    clear hl G
    go_enter Try.func29, Try.ntmps29
    go_wp2_with fail
    go_ret2
    exact ⟨rfl, Below.refl _ _⟩
set_option maxHeartbeats 1000000 in
theorem FitsWindows_I (w : World) (a : Option Addr) (c : Nat) (xs : List Wn) (ha : SlA Wn.enc 4 w a xs) (_ : a = none → c = 0) (oka : ∀ p ∈ xs, p.Ok) (_ : xs.length ≤ 1048576) (b : Option Addr) (d : Nat) (ys : List Fa) (hb : SlA Fa.enc 3 w b ys) (_ : b = none → d = 0) (okb : ∀ p ∈ ys, p.Ok) (_ : ys.length ≤ 1048576) :
    Calls Try.prog 31 #[.slice a xs.length c, .slice b ys.length d] w fun e w' => e = .returned (.tuple #[.int .i64 (FitsWindowsG xs ys).1, .int .i64 (FitsWindowsG xs ys).2]) ∧ Below w.heap.size w w' := by
  have sa := ha.small
  have sb := hb.small
  by_cases hl : xs.length = ys.length
  · have hl1 : ((xs.length : Int) != ys.length) = false := by simp [hl]
    obtain ⟨r, hr⟩ : ∃ r, FitsWindowsG xs ys = r := ⟨_, rfl⟩
    have Hr := hid hr
    rw [hr]
    clear hr
    go_enter Try.func31, Try.ntmps31
    go_wp2_with fail
    go_loopw [15] (fun i wr => ∃ k : Nat, k ≤ xs.length ∧ i = .int .i64 k ∧ ((xs.zip ys).take k).any misfit = false ∧ Below w.heap.size w wr) (fun i _ => xs.length - (intOf i).toNat)
    case atStart => exact ⟨0, Nat.zero_le _, rfl, rfl, Below.refl _ _⟩
    case round =>
      obtain ⟨k, hk, rfl, ht, hbl⟩ := hrel
      by_cases hlt : k < xs.length
      · obtain ⟨b1, o1, rfl, hb1, hc1⟩ := ha.cells (by omega)
        obtain ⟨b2, o2, rfl, hb2, hc2⟩ := hb.cells (by omega)
        have hly : k < ys.length := by omega
        have e1 : xs[k]? = some xs[k] := List.getElem?_eq_getElem hlt
        have e2 : ys[k]? = some ys[k] := List.getElem?_eq_getElem hly
        have Hz := hid (show (xs.zip ys)[k]? = some (xs[k], ys[k]) by rw [List.getElem?_zip_eq_some]; exact ⟨e1, e2⟩)
        have okp := oka _ (List.getElem_mem hlt)
        have okq := okb _ (List.getElem_mem hly)
        have Hp := hid e1
        have Hq := hid e2
        have HT := hid ht
        have HL := hid hl
        clear ht hl e1 e2
        generalize xs[k] = p at *
        generalize ys[k] = q at *
        have f0 : wr.cell? ⟨b1, o1 + k * 4, none⟩ = some (.int .u8 p.si) := (hbl.cell (p := ⟨b1, _, none⟩) hb1).trans (hc1 k _ Hp.out 0 _ rfl)
        have f1 : wr.cell? ⟨b1, o1 + k * 4 + 1, none⟩ = some (.bool p.su) := (hbl.cell (p := ⟨b1, _, none⟩) hb1).trans (hc1 k _ Hp.out 1 _ rfl)
        have f2 : wr.cell? ⟨b1, o1 + k * 4 + 2, none⟩ = some (.int .i64 p.ea) := (hbl.cell (p := ⟨b1, _, none⟩) hb1).trans (hc1 k _ Hp.out 2 _ rfl)
        have f3 : wr.cell? ⟨b1, o1 + k * 4 + 3, none⟩ = some (.int .i64 p.la) := (hbl.cell (p := ⟨b1, _, none⟩) hb1).trans (hc1 k _ Hp.out 3 _ rfl)
        have g0 : wr.cell? ⟨b2, o2 + k * 3, none⟩ = some (.int .i64 q.ti) := (hbl.cell (p := ⟨b2, _, none⟩) hb2).trans (hc2 k _ Hq.out 0 _ rfl)
        have g1 : wr.cell? ⟨b2, o2 + k * 3 + 1, none⟩ = some (.int .i8 q.fr) := (hbl.cell (p := ⟨b2, _, none⟩) hb2).trans (hc2 k _ Hq.out 1 _ rfl)
        have g2 : wr.cell? ⟨b2, o2 + k * 3 + 2, none⟩ = some (.int .i64 q.by_) := (hbl.cell (p := ⟨b2, _, none⟩) hb2).trans (hc2 k _ Hq.out 2 _ rfl)
        have hz := hbl.size
        have hb1w : b1 < wr.heap.size := by omega
        have hb2w : b2 < wr.heap.size := by omega
        have Hs := hid (fun W => FitsWindow_I p q W okp okq)
        obtain ⟨f, hf⟩ : ∃ f, fits p.si p.su p.ea p.la q.ti q.fr = f := ⟨_, rfl⟩
        rw [hf] at Hs
        have Hf := hid hf
        clear hc1 hc2 okp okq hf
        have hL := @later_cell (wr.alloc (Obj.cells #[.int .i64 q.ti, .int .i8 q.fr, .int .i64 q.by_] 30))
        go_wp2_with fail
        refine wp_region_later (by kernel_rfl) (by kernel_rfl) ?_
        repeat (first | go_big_quiet_skip | (go_big_quiet_want; go_big_quiet_op; first | go_big_quiet_on | (apply Exists.intro; refine ⟨fun _ => ?_, ?_⟩; (go_at_call 15; exact quiet_later (Hs.out _)); go_big_quiet_on)))
        refine wpQuiet_nil ?_
        intro x
        have Bx := below_of (hbl.alloc hz (Obj.cells #[.int .i64 q.ti, .int .i8 q.fr, .int .i64 q.by_] 30)) (by simp; omega) x.below
        cases f
        · go_wp2_with fail
          go_ret2
          refine ⟨?_, Bx⟩
          rw [← Hr.out]
          unfold FitsWindowsG
          rw [if_neg (by rw [HL.out]; simp), idxOf_at HT.out Hz.out (by simp [misfit, Hf.out])]
          rw [if_neg (by omega)]
          rfl
        · go_wp2_with fail
          exact ⟨⟨k + 1, by omega, by go_num, any_step HT.out Hz.out (by simp [misfit, Hf.out]), Bx⟩, by simp [intOf]; omega⟩
      · obtain rfl : k = xs.length := by omega
        have h7 : ys.length ≤ xs.length := by omega
        have HT := hid ht
        have HL := hid hl
        clear ht hl
        go_wp2_with fail
        go_ret2
        refine ⟨?_, hbl⟩
        rw [← Hr.out]
        unfold FitsWindowsG
        have := HT.out
        rw [List.take_of_length_le (by rw [List.length_zip]; omega)] at this
        rw [if_neg (by rw [HL.out]; simp), idxOf_none this]
        simp
  · have hl1 : ((xs.length : Int) != ys.length) = true := by rw [bne_iff_ne]; omega
    have G : FitsWindowsG xs ys = (0, 2) := by unfold FitsWindowsG; rw [if_pos hl]
    rw [G]
    clear hl G
    go_enter Try.func31, Try.ntmps31
    go_wp2_with fail
    go_ret2
    exact ⟨rfl, Below.refl _ _⟩
end Go.Proofs.Ytnoiendelcidbaa
