/-
  Spans: which are some; a list of them looked over; a copy; NarrowSpan, both the program's and the reference's.
  Whether a board that is timed is right, the program's.
  ValidSpans, both the program's and the reference's.
  Conditions: the fields are in their kinds' ranges.
-/
import Derived.Test.YtnabedhhflfepaaGreatSmall
import Derived.Test.YtnabedhhflfepaaGreatValidI
import Derived.Test.YtnabedhhflfepaaGreatApp
namespace Go.Proofs.YtnabedhhflfepaaGreat
open Go.RowKit
set_option linter.unusedSimpArgs false
set_option linter.unusedVariables false

def spOk (p : Sp) : Bool := decide (1 ≤ p.lo) && decide (p.lo ≤ p.hi) && decide (p.hi ≤ 9)
theorem span_S (p : Sp) (w : World) (hp : p.Ok) :
    Calls Tryz.prog 126 #[.agg p.enc.toArray] w fun e w' => e = .returned (.bool (spOk p)) ∧ Below w.heap.size w w' := by
  obtain ⟨lo, hi⟩ := p
  obtain ⟨h0, h1, h2, h3⟩ := hp
  simp only [Sp.enc] at *
  go_enter Tryz.func126, Tryz.ntmps126
  go_wp2_with (go_at_call 39; refine (in_S _ _ _ _).mono ?_; rintro e w' ⟨rfl, rfl⟩)
  all_goals go_ret
  all_goals refine ⟨ret_bool ?_, (Below.refl _ _).alloc (Nat.le_refl _) _⟩
  all_goals (simp_all [spOk, inB] <;> omega)
theorem spanOk_I (p : Sp) (w : World) (hp : p.Ok) :
    Calls Tryz.prog 123 #[.agg p.enc.toArray] w fun e w' => e = .returned (.bool (spOk p)) ∧ Below w.heap.size w w' := by
  obtain ⟨lo, hi⟩ := p
  obtain ⟨h0, h1, h2, h3⟩ := hp
  simp only [Sp.enc] at *
  go_enter Tryz.func123, Tryz.ntmps123
  go_wp2
  all_goals go_ret
  all_goals refine ⟨ret_bool ?_, (Below.refl _ _).alloc (Nat.le_refl _) _⟩
  all_goals (simp [spOk]; omega)
theorem badSpan_I (p : Sp) (w : World) (hp : p.Ok) :
    Calls Tryz.prog 98 #[.agg p.enc.toArray] w fun e w' => e = .returned (.bool (!spOk p)) ∧ Below w.heap.size w w' := by
  have Hs := hid (fun w => spanOk_I p w hp)
  obtain ⟨lo, hi⟩ := p
  simp only [Sp.enc] at *
  generalize spOk ⟨lo, hi⟩ = r at *
  go_enter Tryz.func98, Tryz.ntmps98
  go_wp2_with (go_at_call 123; refine (Hs.out _).mono ?_; rintro e w' ⟨rfl, hb⟩)
  go_ret
  exact ⟨rfl, below_of ((Below.refl _ _).alloc (Nat.le_refl _) _) (by simp) hb⟩
set_option maxHeartbeats 400000 in
theorem spans_S (a : Option Addr) (c : Nat) (xs : List Sp) (w : World) (h : SlA Sp.enc 2 w a xs) (ok : ∀ p ∈ xs, p.Ok) :
    Calls Tryz.prog 100 #[.slice a xs.length c] w fun e w' => e = .returned (.bool (xs.all spOk)) ∧ Below w.heap.size w w' := by
  have sa := h.small
  go_enter Tryz.func100, Tryz.ntmps100
  go_wp2_with fail
  go_loopw [3] (fun i wr => ∃ k : Nat, k ≤ xs.length ∧ i = .int .i64 k ∧ (xs.take k).all spOk = true ∧ Below w.heap.size w wr) (fun i _ => xs.length - (intOf i).toNat)
  case atStart => exact ⟨0, Nat.zero_le _, rfl, rfl, Below.refl _ _⟩
  case round =>
    obtain ⟨k, hk, rfl, ht, hbl⟩ := hrel
    by_cases hlt : k < xs.length
    · obtain ⟨b1, o1, rfl, hb1, hc1⟩ := h.cells (by omega)
      have e1 : xs[k]? = some xs[k] := List.getElem?_eq_getElem hlt
      have okp : xs[k].Ok := ok _ (List.getElem_mem hlt)
      have Hp := hid e1
      have HT := hid ht
      clear ht e1
      generalize xs[k] = p at *
      have Hs := hid (fun w => span_S p w okp)
      obtain ⟨r, hr⟩ : ∃ r, spOk p = r := ⟨_, rfl⟩
      rw [hr] at Hs
      have Hr := hid hr
      have f0 : wr.cell? ⟨b1, o1 + k * 2, none⟩ = some (.int .i8 p.lo) := (hbl.cell (p := ⟨b1, _, none⟩) hb1).trans (hc1 k _ Hp.out 0 _ rfl)
      have f1 : wr.cell? ⟨b1, o1 + k * 2 + 1, none⟩ = some (.int .i8 p.hi) := (hbl.cell (p := ⟨b1, _, none⟩) hb1).trans (hc1 k _ Hp.out 1 _ rfl)
      clear hr hc1 okp
      cases r
      · go_wp2_with fail
        refine (Hs.out _).mono ?_
        rintro e w1 ⟨rfl, hb9⟩
        go_wp2_with fail
        go_ret
        refine ⟨ret_bool ?_, below_of hbl hbl.size hb9⟩
        rw [eq_comm, Bool.eq_false_iff]
        intro hall
        have := List.all_eq_true.1 hall p (List.mem_of_getElem? Hp.out)
        rw [Hr.out] at this
        cases this
      · go_wp2_with fail
        refine (Hs.out _).mono ?_
        rintro e w1 ⟨rfl, hb9⟩
        go_wp2_with fail
        refine ⟨⟨k + 1, by omega, by go_num, ?_, below_of hbl hbl.size hb9⟩, by simp [intOf]; omega⟩
        rw [List.take_add_one, Hp.out, List.all_append, HT.out]
        simp [Hr.out]
    · obtain rfl : k = xs.length := by omega
      have HT := hid ht
      clear ht
      go_wp2_with fail
      go_ret
      refine ⟨ret_bool ?_, hbl⟩
      have := HT.out
      rw [List.take_length] at this
      exact this.symm
set_option maxHeartbeats 400000 in
theorem idx_badSpan (a : Option Addr) (c : Nat) (xs : List Sp) (w : World) (h : SlA Sp.enc 2 w a xs) (ok : ∀ p ∈ xs, p.Ok) :
    Calls Tryz.prog 122 #[.slice a xs.length c, .func (.func 98) #[] #[]] w fun e w' => e = .returned (.int .i64 (idxOf (fun p => !spOk p) xs)) ∧ Below w.heap.size w w' := by
  have sa := h.small
  go_enter Tryz.func122, Tryz.ntmps122
  go_wp2_with fail
  go_loopw [8] (fun i wr => ∃ k : Nat, k ≤ xs.length ∧ i = .int .i64 k ∧ (xs.take k).any (fun p => !spOk p) = false ∧ Below w.heap.size w wr) (fun i _ => xs.length - (intOf i).toNat)
  case atStart => exact ⟨0, Nat.zero_le _, rfl, rfl, Below.refl _ _⟩
  case round =>
    obtain ⟨k, hk, rfl, ht, hbl⟩ := hrel
    by_cases hlt : k < xs.length
    · obtain ⟨b1, o1, rfl, hb1, hc1⟩ := h.cells (by omega)
      have e1 : xs[k]? = some xs[k] := List.getElem?_eq_getElem hlt
      have okp : xs[k].Ok := ok _ (List.getElem_mem hlt)
      have Hp := hid e1
      have HT := hid ht
      clear ht e1
      generalize xs[k] = p at *
      have Hs := hid (fun w => badSpan_I p w okp)
      obtain ⟨r, hr⟩ : ∃ r, (!spOk p) = r := ⟨_, rfl⟩
      rw [hr] at Hs
      have Hr := hid hr
      have f0 : wr.cell? ⟨b1, o1 + k * 2, none⟩ = some (.int .i8 p.lo) := (hbl.cell (p := ⟨b1, _, none⟩) hb1).trans (hc1 k _ Hp.out 0 _ rfl)
      have f1 : wr.cell? ⟨b1, o1 + k * 2 + 1, none⟩ = some (.int .i8 p.hi) := (hbl.cell (p := ⟨b1, _, none⟩) hb1).trans (hc1 k _ Hp.out 1 _ rfl)
      clear hr hc1 okp
      cases r
      · go_wp2_with fail
        refine (Hs.out _).mono ?_
        rintro e w1 ⟨rfl, hb9⟩
        go_wp2_with fail
        refine ⟨⟨k + 1, by omega, by go_num, ?_, below_of hbl hbl.size hb9⟩, by simp [intOf]; omega⟩
        exact any_step HT.out Hp.out Hr.out
      · go_wp2_with fail
        refine (Hs.out _).mono ?_
        rintro e w1 ⟨rfl, hb9⟩
        go_wp2_with fail
        go_ret
        exact ⟨ret_int (idxOf_at HT.out Hp.out Hr.out).symm, below_of hbl hbl.size hb9⟩
    · obtain rfl : k = xs.length := by omega
      have HT := hid ht
      clear ht
      go_wp2_with fail
      go_ret
      refine ⟨ret_int ?_, hbl⟩
      have := HT.out
      rw [List.take_length] at this
      exact (idxOf_none this).symm
theorem has_badSpan (a : Option Addr) (c : Nat) (xs : List Sp) (w : World) (h : SlA Sp.enc 2 w a xs) (ok : ∀ p ∈ xs, p.Ok) :
    Calls Tryz.prog 97 #[.slice a xs.length c, .func (.func 98) #[] #[]] w fun e w' => e = .returned (.bool (xs.any (fun p => !spOk p))) ∧ Below w.heap.size w w' := by
  have Hs := hid (idx_badSpan a c xs w h ok)
  have Hr := hid (idxOf_ge (fun p => !spOk p) xs)
  have hl := h.small
  have hm := idxOf_le (fun p => !spOk p) xs
  clear h
  generalize idxOf (fun p => !spOk p) xs = q at *
  go_enter Tryz.func97, Tryz.ntmps97
  go_wp2_with fail
  refine Hs.out.mono ?_
  rintro e w1 ⟨rfl, hb⟩
  go_wp2_with fail
  go_ret
  exact ⟨ret_bool Hr.out, hb⟩
set_option maxRecDepth 100000 in
set_option maxHeartbeats 400000 in
theorem clone_Sp_L (a : Option Addr) (c : Nat) (xs : List Sp) (w : World) (h : SlA Sp.enc 2 w a xs) (hc : a = none → c = 0) (hs : xs.length ≤ 1048576) :
    Calls Tryz.prog 49 #[.slice a xs.length c] w fun e w' => ∃ A c', e = .returned (.slice A xs.length c') ∧ Below w.heap.size w w' ∧ w'.ownsRow w.heap.size 74 2 (.slice A xs.length c') xs.length (xs.flatMap Sp.enc) := by
  cases a with
  | none =>
    have h0 : xs.length = 0 := by
      rcases Nat.eq_zero_or_pos xs.length with h0 | h0
      · exact h0
      · obtain ⟨_, _, e, _⟩ := h.cells h0
        cases e
    obtain rfl : xs = [] := List.eq_nil_of_length_eq_zero h0
    obtain rfl : c = 0 := hc rfl
    clear h hc h0 hs
    simp only [List.length_nil]
    have q41 : ∀ (w : World) (a : Option Addr) (n c n' c' : Nat), (binOp .eql 39 (.slice a n c) (.slice none n' c')).run Tryz.prog w = .ok (.bool a.isNone) w := fun w a n c n' c' => Lib.run_eql_slice_nil w _ _ a n c n' c' Tryz.underlying39
    go_enter Tryz.func49, Tryz.ntmps49
    go_wp2_with fail
    go_ret
    exact ⟨none, 0, rfl, Below.refl _ _, World.ownsRow_nil _ _ _ _⟩
  | some ad =>
    have q41 : ∀ (w : World) (a : Option Addr) (n c n' c' : Nat), (binOp .eql 39 (.slice a n c) (.slice none n' c')).run Tryz.prog w = .ok (.bool a.isNone) w := fun w a n c n' c' => Lib.run_eql_slice_nil w _ _ a n c n' c' Tryz.underlying39
    have H := hid (fun o => (h.below ((Below.refl _ _).alloc (Nat.le_refl _) o) : SlA Sp.enc 2 (w.alloc o) (some ad) xs).flat Sp.enc_length)
    clear h hc
    go_enter Tryz.func49, Tryz.ntmps49
    go_wp2_with (at_builtin; refine app_many rfl _ _ 39 rfl w.heap.size 74 (.agg Sp.z.enc.toArray) 2 2 Tryz.underlying39 (by kernel_rfl) rfl (by decide) _ 0 [] rfl (World.ownsRow_lit w #[] 0 (Nat.le_refl _) (by simp [maxLen]) (by simp)) (some ad) xs.length c (xs.flatMap Sp.enc) rfl ?c1 (H.out _) ?c2 ?c3 ?c4 (by decide) ?c5 ?_)
    case c1 => exact flatMap_len Sp.enc_length xs
    case c2 => exact oneCell_flat (fun p u hu => by simp [Sp.enc] at hu; rcases hu with rfl | rfl <;> rfl) xs
    case c3 => exact fun _ => .inr (by simp)
    case c4 => omega
    case c5 => simp
    intro v1 w1 own1 hg1 hat
    try simp only [Nat.zero_add, List.nil_append] at own1
    obtain ⟨A1, c1, rfl⟩ := own_slice own1
    have Ho := hid own1
    have Hg := hid hg1
    clear own1 hg1 hat q41
    go_wp2_with fail
    go_ret
    exact ⟨A1, c1, rfl, ((Below.refl _ _).alloc (Nat.le_refl _) _).grown Hg.out (by simp) (by simp [Value.ownBlock]), Ho.out⟩
def timedG (wi hi : Int) (xs : List Pc) (v : Bool) : Int := if (bdOk wi hi xs && v) = true then (if 60 < xs.length then 3 else 0) else 1
theorem timedOk_I (wi hi : Int) (a : Option Addr) (c : Nat) (xs : List Pc) (v : Bool) (w : World) (rw_ : -128 ≤ wi ∧ wi ≤ 127 ∧ -128 ≤ hi ∧ hi ≤ 127) (h : SlA Pc.enc 5 w a xs) (ok : ∀ p ∈ xs, p.Ok) :
    Calls Tryz.prog 69 #[.agg #[.int .i8 wi, .int .i8 hi, .slice a xs.length c], .bool v] w fun e w' => e = .returned (.int .i64 (timedG wi hi xs v)) ∧ Below w.heap.size w w' := by
  have Ha := hid (fun W (hB : Below w.heap.size w W) => ValidBoard_I wi hi a c xs W rw_ (h.below hB) ok)
  obtain ⟨d1, hd1⟩ : ∃ d1 : Bool, bdOk wi hi xs = d1 := ⟨_, rfl⟩
  rw [hd1] at Ha
  have HG := hid (show timedG wi hi xs v = if (d1 && v) = true then (if 60 < xs.length then 3 else 0) else 1 by unfold timedG; rw [hd1])
  have sa := h.small
  have B0 : ∀ o, Below w.heap.size w (w.alloc o) := fun o => (Below.refl _ _).alloc (Nat.le_refl _) _
  have HB := hid B0
  clear B0 hd1
  go_enter Tryz.func69, Tryz.ntmps69
  go_wp2_with fail
  refine (Ha.out _ (HB.out _)).mono ?_
  rintro e w1 ⟨rfl, hb1⟩
  obtain ⟨hc1, hf1⟩ := bcell hb1
  have B1 := below_of (HB.out _) (by simp) hb1
  have hz := hb1.size
  simp only [World.size_alloc] at hz
  have s1 : w.heap.size < w1.heap.size := by omega
  cases d1
  · go_wp2_with fail
    go_ret
    exact ⟨ret_int (by rw [HG.out]; rfl), B1⟩
  · cases v
    · go_wp2_with fail
      go_ret
      exact ⟨ret_int (by rw [HG.out]; rfl), B1⟩
    · by_cases h60 : 60 < xs.length
      · go_wp2_with fail
        go_ret
        exact ⟨ret_int (by rw [HG.out]; simp [h60]), B1⟩
      · go_wp2_with fail
        go_ret
        exact ⟨ret_int (by rw [HG.out]; simp [h60]), B1⟩
def ValidSpansG (wi hi : Int) (xs : List Pc) (ys : List Sp) : Bool := bdOk wi hi xs && (((ys.length : Int) == (xs.length : Int)) && ys.all spOk)
theorem any_bad (ys : List Sp) : (ys.any fun p => !spOk p) = !ys.all spOk := by
  induction ys with
  | nil => rfl
  | cons y l ih => rw [List.any_cons, List.all_cons, ih]; cases spOk y <;> simp
theorem l06Ok_S (b : Nat) (wi hi : Int) (a : Option Addr) (c : Nat) (xs : List Pc) (a2 : Option Addr) (c2 : Nat) (ys : List Sp) (w : World) (rw_ : -128 ≤ wi ∧ wi ≤ 127 ∧ -128 ≤ hi ∧ hi ≤ 127) (hb : BdA w b wi hi a xs.length c) (h : SlA Pc.enc 5 w a xs) (ok : ∀ p ∈ xs, p.Ok) (h2 : SlA Sp.enc 2 w a2 ys) (ok2 : ∀ p ∈ ys, p.Ok) :
    Calls Tryz.prog 73 #[.pointer (some ⟨b, 0, none⟩), .slice a2 ys.length c2] w fun e w' => e = .returned (.bool (ValidSpansG wi hi xs ys)) ∧ Below w.heap.size w w' := by
  have Ha := hid (ok_S b wi hi a c xs w rw_ hb h ok)
  have Hb := hid (fun W (hb : Below w.heap.size w W) => spans_S a2 c2 ys W (h2.below hb) ok2)
  obtain ⟨d1, hd1⟩ : ∃ d1 : Bool, bdOk wi hi xs = d1 := ⟨_, rfl⟩
  obtain ⟨d2, hd2⟩ : ∃ d2 : Bool, ((ys.length : Int) == (xs.length : Int)) = d2 := ⟨_, rfl⟩
  obtain ⟨d3, hd3⟩ : ∃ d3 : Bool, ys.all spOk = d3 := ⟨_, rfl⟩
  rw [hd1] at Ha
  rw [hd3] at Hb
  have HG := hid (show ValidSpansG wi hi xs ys = (d1 && (d2 && d3)) by unfold ValidSpansG; rw [hd1, hd2, hd3])
  have sa := h.small
  have sb := h2.small
  have hbd := hb
  obtain ⟨g9, g0, g1, g2⟩ := hb
  clear hd1 hd3
  go_enter Tryz.func73, Tryz.ntmps73
  go_wp2_with fail
  refine Ha.out.mono ?_
  rintro e w1 ⟨rfl, hb1⟩
  have k2 : w1.cell? ⟨b, 2, none⟩ = some (.slice a xs.length c) := (hb1.cell (p := ⟨b, _, none⟩) g9).trans g2
  cases d1
  · go_wp2_with fail
    go_ret
    exact ⟨ret_bool (by rw [HG.out]; rfl), hb1⟩
  · cases d2
    · go_wp2_with fail
      go_ret
      exact ⟨ret_bool (by rw [HG.out]; rfl), hb1⟩
    · go_wp2_with fail
      refine (Hb.out _ hb1).mono ?_
      rintro e w2 ⟨rfl, hb2⟩
      go_wp2_with fail
      go_ret
      exact ⟨ret_bool (by rw [HG.out]; simp), below_then hb1 hb2⟩
theorem ValidSpans_I (w : World) (wi hi : Int) (wl : -128 ≤ wi) (wu : wi ≤ 127) (hl : -128 ≤ hi) (hu : hi ≤ 127) (a : Option Addr) (c : Nat) (xs : List Pc) (h : SlA Pc.enc 5 w a xs) (_ : a = none → c = 0) (ok : ∀ p ∈ xs, p.Ok) (_ : xs.length ≤ 1048576) (a2 : Option Addr) (c2 : Nat) (ys : List Sp) (h2 : SlA Sp.enc 2 w a2 ys) (_ : a2 = none → c2 = 0) (ok2 : ∀ p ∈ ys, p.Ok) (_ : ys.length ≤ 1048576) :
    Calls Tryz.prog 71 #[.agg #[.int .i8 wi, .int .i8 hi, .slice a xs.length c], .slice a2 ys.length c2] w fun e w' => e = .returned (.bool (ValidSpansG wi hi xs ys)) ∧ Below w.heap.size w w' := by
  have Ha := hid (fun W (hB : Below w.heap.size w W) => ValidBoard_I wi hi a c xs W ⟨wl, wu, hl, hu⟩ (h.below hB) ok)
  have Hb := hid (fun W (hB : Below w.heap.size w W) => has_badSpan a2 c2 ys W (h2.below hB) ok2)
  rw [any_bad] at Hb
  obtain ⟨d1, hd1⟩ : ∃ d1 : Bool, bdOk wi hi xs = d1 := ⟨_, rfl⟩
  obtain ⟨d2, hd2⟩ : ∃ d2 : Bool, ((ys.length : Int) == (xs.length : Int)) = d2 := ⟨_, rfl⟩
  obtain ⟨d3, hd3⟩ : ∃ d3 : Bool, ys.all spOk = d3 := ⟨_, rfl⟩
  rw [hd1] at Ha
  rw [hd3] at Hb
  have HG := hid (show ValidSpansG wi hi xs ys = (d1 && (d2 && d3)) by unfold ValidSpansG; rw [hd1, hd2, hd3])
  have sa := h.small
  have sb := h2.small
  have B0 : ∀ o, Below w.heap.size w (w.alloc o) := fun o => (Below.refl _ _).alloc (Nat.le_refl _) _
  have HB := hid B0
  clear B0 hd1 hd3
  go_enter Tryz.func71, Tryz.ntmps71
  go_wp2_with fail
  refine (Ha.out _ (HB.out _)).mono ?_
  rintro e w1 ⟨rfl, hb1⟩
  obtain ⟨hc1, hf1⟩ := bcell hb1
  have B1 := below_of (HB.out _) (by simp) hb1
  have hz := hb1.size
  simp only [World.size_alloc] at hz
  have s1 : w.heap.size < w1.heap.size := by omega
  cases d1
  · go_wp2_with fail
    go_ret
    exact ⟨ret_bool (by rw [HG.out]; rfl), B1⟩
  · cases d2
    · go_wp2_with fail
      go_ret
      exact ⟨ret_bool (by rw [HG.out]; rfl), B1⟩
    · go_wp2_with fail
      refine (Hb.out _ B1).mono ?_
      rintro e w2 ⟨rfl, hb2⟩
      go_wp2_with fail
      go_ret
      exact ⟨ret_bool (by rw [HG.out]; simp), below_then B1 hb2⟩
end Go.Proofs.YtnabedhhflfepaaGreat
