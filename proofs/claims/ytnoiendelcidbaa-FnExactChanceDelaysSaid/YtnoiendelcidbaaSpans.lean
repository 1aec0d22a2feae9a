/-
  Spans: which are some; a list of them looked over; a copy; NarrowSpan, both the program's and the reference's.
  Conditions: the fields are in their kinds' ranges.
-/
import Derived.Test.YtnoiendelcidbaaSmall
namespace Go.Proofs.Ytnoiendelcidbaa
open Go.RowKit
set_option linter.unusedSimpArgs false
set_option linter.unusedVariables false

def spOk (p : Sp) : Bool := decide (1 ≤ p.lo) && decide (p.lo ≤ p.hi) && decide (p.hi ≤ 9)
theorem span_S (p : Sp) (w : World) (hp : p.Ok) :
    Calls Try.prog 99 #[.agg p.enc.toArray] w fun e w' => e = .returned (.bool (spOk p)) ∧ Below w.heap.size w w' := by
  obtain ⟨lo, hi⟩ := p
  obtain ⟨h0, h1, h2, h3⟩ := hp
  simp only [Sp.enc] at *
  go_enter Try.func99, Try.ntmps99
  go_wp2_with (go_at_call 62; refine (in_S _ _ _ _).mono ?_; rintro e w' ⟨rfl, rfl⟩)
  all_goals go_ret
  all_goals refine ⟨ret_bool ?_, (Below.refl _ _).alloc (Nat.le_refl _) _⟩
  all_goals (simp_all [spOk, inB] <;> omega)
theorem spanOk_I (p : Sp) (w : World) (hp : p.Ok) :
    Calls Try.prog 101 #[.agg p.enc.toArray] w fun e w' => e = .returned (.bool (spOk p)) ∧ Below w.heap.size w w' := by
  obtain ⟨lo, hi⟩ := p
  obtain ⟨h0, h1, h2, h3⟩ := hp
  simp only [Sp.enc] at *
  go_enter Try.func101, Try.ntmps101
  go_wp2
  all_goals go_ret
  all_goals refine ⟨ret_bool ?_, (Below.refl _ _).alloc (Nat.le_refl _) _⟩
  all_goals (simp [spOk]; omega)
theorem badSpan_I (p : Sp) (w : World) (hp : p.Ok) :
    Calls Try.prog 65 #[.agg p.enc.toArray] w fun e w' => e = .returned (.bool (!spOk p)) ∧ Below w.heap.size w w' := by
  have Hs := hid (fun w => spanOk_I p w hp)
  obtain ⟨lo, hi⟩ := p
  simp only [Sp.enc] at *
  generalize spOk ⟨lo, hi⟩ = r at *
  go_enter Try.func65, Try.ntmps65
  go_wp2_with (go_at_call 101; refine (Hs.out _).mono ?_; rintro e w' ⟨rfl, hb⟩)
  go_ret
  exact ⟨rfl, below_of ((Below.refl _ _).alloc (Nat.le_refl _) _) (by simp) hb⟩
set_option maxHeartbeats 400000 in
theorem spans_S (a : Option Addr) (c : Nat) (xs : List Sp) (w : World) (h : SlA Sp.enc 2 w a xs) (ok : ∀ p ∈ xs, p.Ok) :
    Calls Try.prog 61 #[.slice a xs.length c] w fun e w' => e = .returned (.bool (xs.all spOk)) ∧ Below w.heap.size w w' := by
  have sa := h.small
  go_enter Try.func61, Try.ntmps61
  go_wp2_with fail
  go_loopw [3] (fun i wr => ∃ k : Nat, k ≤ xs.length ∧ i = .int .i64 k ∧ (xs.take k).all spOk = true ∧ Below w.heap.size w wr) (fun i _ => xs.length - (intOf i).toNat)
  case atStart => exact ⟨0, Nat.zero_le _, rfl, rfl, Below.refl _ _⟩
  case round =>
    obtain ⟨k, hk, rfl, ht, hbl⟩ := hrel
    by_cases hlt : k < xs.length
    · obtain ⟨b1, o1, rfl, hb1, hc1⟩ := h.cells (by omega)
      have e1 : xs[k]? = some xs[k] := List.getElem?_eq_getElem hlt
      have okp : xs[k].Ok := ok _ (List.getElem_mem hlt)
      have Hp := hid e1
      have HT := hid ht
      clear ht e1
      generalize xs[k] = p at *
      have Hs := hid (fun w => span_S p w okp)
      obtain ⟨r, hr⟩ : ∃ r, spOk p = r := ⟨_, rfl⟩
      rw [hr] at Hs
      have Hr := hid hr
      have f0 : wr.cell? ⟨b1, o1 + k * 2, none⟩ = some (.int .i8 p.lo) := (hbl.cell (p := ⟨b1, _, none⟩) hb1).trans (hc1 k _ Hp.out 0 _ rfl)
      have f1 : wr.cell? ⟨b1, o1 + k * 2 + 1, none⟩ = some (.int .i8 p.hi) := (hbl.cell (p := ⟨b1, _, none⟩) hb1).trans (hc1 k _ Hp.out 1 _ rfl)
      clear hr hc1 okp
      cases r
      · go_wp2_with fail
        refine (Hs.out _).mono ?_
        rintro e w1 ⟨rfl, hb9⟩
        go_wp2_with fail
        go_ret
        refine ⟨ret_bool ?_, below_of hbl hbl.size hb9⟩
        rw [eq_comm, Bool.eq_false_iff]
        intro hall
        have := List.all_eq_true.1 hall p (List.mem_of_getElem? Hp.out)
        rw [Hr.out] at this
        cases this
      · go_wp2_with fail
        refine (Hs.out _).mono ?_
        rintro e w1 ⟨rfl, hb9⟩
        go_wp2_with fail
        refine ⟨⟨k + 1, by omega, by go_num, ?_, below_of hbl hbl.size hb9⟩, by simp [intOf]; omega⟩
        rw [List.take_add_one, Hp.out, List.all_append, HT.out]
        simp [Hr.out]
    · obtain rfl : k = xs.length := by omega
      have HT := hid ht
      clear ht
      go_wp2_with fail
      go_ret
      refine ⟨ret_bool ?_, hbl⟩
      have := HT.out
      rw [List.take_length] at this
      exact this.symm
set_option maxHeartbeats 400000 in
theorem idx_badSpan (a : Option Addr) (c : Nat) (xs : List Sp) (w : World) (h : SlA Sp.enc 2 w a xs) (ok : ∀ p ∈ xs, p.Ok) :
    Calls Try.prog 100 #[.slice a xs.length c, .func (.func 65) #[] #[]] w fun e w' => e = .returned (.int .i64 (idxOf (fun p => !spOk p) xs)) ∧ Below w.heap.size w w' := by
  have sa := h.small
  go_enter Try.func100, Try.ntmps100
  go_wp2_with fail
  go_loopw [8] (fun i wr => ∃ k : Nat, k ≤ xs.length ∧ i = .int .i64 k ∧ (xs.take k).any (fun p => !spOk p) = false ∧ Below w.heap.size w wr) (fun i _ => xs.length - (intOf i).toNat)
  case atStart => exact ⟨0, Nat.zero_le _, rfl, rfl, Below.refl _ _⟩
  case round =>
    obtain ⟨k, hk, rfl, ht, hbl⟩ := hrel
    by_cases hlt : k < xs.length
    · obtain ⟨b1, o1, rfl, hb1, hc1⟩ := h.cells (by omega)
      have e1 : xs[k]? = some xs[k] := List.getElem?_eq_getElem hlt
      have okp : xs[k].Ok := ok _ (List.getElem_mem hlt)
      have Hp := hid e1
      have HT := hid ht
      clear ht e1
      generalize xs[k] = p at *
      have Hs := hid (fun w => badSpan_I p w okp)
      obtain ⟨r, hr⟩ : ∃ r, (!spOk p) = r := ⟨_, rfl⟩
      rw [hr] at Hs
      have Hr := hid hr
      have f0 : wr.cell? ⟨b1, o1 + k * 2, none⟩ = some (.int .i8 p.lo) := (hbl.cell (p := ⟨b1, _, none⟩) hb1).trans (hc1 k _ Hp.out 0 _ rfl)
      have f1 : wr.cell? ⟨b1, o1 + k * 2 + 1, none⟩ = some (.int .i8 p.hi) := (hbl.cell (p := ⟨b1, _, none⟩) hb1).trans (hc1 k _ Hp.out 1 _ rfl)
      clear hr hc1 okp
      cases r
      · go_wp2_with fail
        refine (Hs.out _).mono ?_
        rintro e w1 ⟨rfl, hb9⟩
        go_wp2_with fail
        refine ⟨⟨k + 1, by omega, by go_num, ?_, below_of hbl hbl.size hb9⟩, by simp [intOf]; omega⟩
        exact any_step HT.out Hp.out Hr.out
      · go_wp2_with fail
        refine (Hs.out _).mono ?_
        rintro e w1 ⟨rfl, hb9⟩
        go_wp2_with fail
        go_ret
        exact ⟨ret_int (idxOf_at HT.out Hp.out Hr.out).symm, below_of hbl hbl.size hb9⟩
    · obtain rfl : k = xs.length := by omega
      have HT := hid ht
      clear ht
      go_wp2_with fail
      go_ret
      refine ⟨ret_int ?_, hbl⟩
      have := HT.out
      rw [List.take_length] at this
      exact (idxOf_none this).symm
theorem has_badSpan (a : Option Addr) (c : Nat) (xs : List Sp) (w : World) (h : SlA Sp.enc 2 w a xs) (ok : ∀ p ∈ xs, p.Ok) :
    Calls Try.prog 64 #[.slice a xs.length c, .func (.func 65) #[] #[]] w fun e w' => e = .returned (.bool (xs.any (fun p => !spOk p))) ∧ Below w.heap.size w w' := by
  have Hs := hid (idx_badSpan a c xs w h ok)
  have Hr := hid (idxOf_ge (fun p => !spOk p) xs)
  have hl := h.small
  have hm := idxOf_le (fun p => !spOk p) xs
  clear h
  generalize idxOf (fun p => !spOk p) xs = q at *
  go_enter Try.func64, Try.ntmps64
  go_wp2_with fail
  refine Hs.out.mono ?_
  rintro e w1 ⟨rfl, hb⟩
  go_wp2_with fail
  go_ret
  exact ⟨ret_bool Hr.out, hb⟩
set_option maxRecDepth 100000 in
set_option maxHeartbeats 400000 in
theorem clone_Sp_L (a : Option Addr) (c : Nat) (xs : List Sp) (w : World) (h : SlA Sp.enc 2 w a xs) (hc : a = none → c = 0) (hs : xs.length ≤ 1048576) :
    Calls Try.prog 67 #[.slice a xs.length c] w fun e w' => ∃ A c', e = .returned (.slice A xs.length c') ∧ Below w.heap.size w w' ∧ w'.ownsRow w.heap.size 98 2 (.slice A xs.length c') xs.length (xs.flatMap Sp.enc) := by
  cases a with
  | none =>
    have h0 : xs.length = 0 := by
      rcases Nat.eq_zero_or_pos xs.length with h0 | h0
      · exact h0
      · obtain ⟨_, _, e, _⟩ := h.cells h0
        cases e
    obtain rfl : xs = [] := List.eq_nil_of_length_eq_zero h0
    obtain rfl : c = 0 := hc rfl
    clear h hc h0 hs
    simp only [List.length_nil]
    have q41 : ∀ (w : World) (a : Option Addr) (n c n' c' : Nat), (binOp .eql 41 (.slice a n c) (.slice none n' c')).run Try.prog w = .ok (.bool a.isNone) w := fun w a n c n' c' => Lib.run_eql_slice_nil w _ _ a n c n' c' Try.underlying41
    go_enter Try.func67, Try.ntmps67
    go_wp2_with fail
    go_ret
    exact ⟨none, 0, rfl, Below.refl _ _, World.ownsRow_nil _ _ _ _⟩
  | some ad =>
    have q41 : ∀ (w : World) (a : Option Addr) (n c n' c' : Nat), (binOp .eql 41 (.slice a n c) (.slice none n' c')).run Try.prog w = .ok (.bool a.isNone) w := fun w a n c n' c' => Lib.run_eql_slice_nil w _ _ a n c n' c' Try.underlying41
    have H := hid (fun o => (h.below ((Below.refl _ _).alloc (Nat.le_refl _) o) : SlA Sp.enc 2 (w.alloc o) (some ad) xs).flat Sp.enc_length)
    clear h hc
    go_enter Try.func67, Try.ntmps67
    go_wp2_with (at_builtin; refine app_many rfl _ _ 41 rfl w.heap.size 98 (.agg Sp.z.enc.toArray) 2 2 Try.underlying41 (by kernel_rfl) rfl (by decide) _ 0 [] rfl (World.ownsRow_lit w #[] 0 (Nat.le_refl _) (by simp [maxLen]) (by simp)) (some ad) xs.length c (xs.flatMap Sp.enc) rfl ?c1 (H.out _) ?c2 ?c3 ?c4 (by decide) ?c5 ?_)
    case c1 => exact flatMap_len Sp.enc_length xs
    case c2 => exact oneCell_flat (fun p u hu => by simp [Sp.enc] at hu; rcases hu with rfl | rfl <;> rfl) xs
    case c3 => exact fun _ => .inr (by simp)
    case c4 => omega
    case c5 => simp
    intro v1 w1 own1 hg1 hat
    try simp only [Nat.zero_add, List.nil_append] at own1
    obtain ⟨A1, c1, rfl⟩ := own_slice own1
    have Ho := hid own1
    have Hg := hid hg1
    clear own1 hg1 hat q41
    go_wp2_with fail
    go_ret
    exact ⟨A1, c1, rfl, ((Below.refl _ _).alloc (Nat.le_refl _) _).grown Hg.out (by simp) (by simp [Value.ownBlock]), Ho.out⟩
end Go.Proofs.Ytnoiendelcidbaa
