/-
  slices.Grow at nothing and slices.Concat at two lists of numbers.
  NeedlessGap, both the program's and the reference's.
  NeedlessGap, the program's.
  Conditions: the lists are short. the fields are in their kinds' ranges.
-/
import Derived.Test.YtmjlnhhgpdcobaaGreatSafe
import Derived.Test.YtmjlnhhgpdcobaaGreatOb
import Derived.Lib.AppendZeros
import Derived.Test.YtmjlnhhgpdcobaaGreatWorstWo
import Derived.Test.YtmjlnhhgpdcobaaGreatAppM
import Derived.Deep.RegionHeld3
namespace Go.Proofs.YtmjlnhhgpdcobaaGreat
open Go.RowKit
set_option linter.unusedSimpArgs false
set_option linter.unusedVariables false

theorem Ob.lencap {α : Type} {enc : α → List Value} {n : Nat} {E : TypeId} {b0 lo hi : Nat} {w : World} {A : Option Addr} {c : Nat} {xs : List α} (h : Ob enc n E b0 lo hi w A c xs) : xs.length ≤ c := by
  rcases h.own.2 with ⟨h1, h2⟩ | ⟨g, cap, cur, h1, _, _, h2, _⟩
  · omega
  · injection h1 with _ _ h3
    omega
def sz2 (a b : Nat) : Nat → Nat
  | 0 => 0
  | 1 => a
  | _ => a + b
def pre2 (l1 l2 : List Int) : Nat → List Int
  | 0 => []
  | 1 => l1
  | _ => l1 ++ l2
set_option maxRecDepth 100000 in
theorem grow_en1_I (n : Nat) (w : World) (hn : n ≤ 2097152) :
    Calls Tryz.prog 93 #[.slice none 0 0, .int .i64 n] w fun e w' => ∃ A c, e = .returned (.slice A 0 c) ∧ w'.ownsRow w.heap.size 2 1 (.slice A 0 c) 0 [] ∧ Below w.heap.size w w' := by
  have hneg : decide ((n : Int) < 0) = false := by rw [decide_eq_false_iff_not]; omega
  have hw0 : IntKind.i64.wrap (n : Int) = (n : Int) := IntWalk.i64_in _ (by omega)
  have hw1 : IntKind.i64.wrap ((n : Int) - 0) = (n : Int) := by rw [Int.sub_zero]; exact hw0
  by_cases h0 : n = 0
  · subst h0
    go_enter Tryz.func93, Tryz.ntmps93
    go_wp2_with fail
    go_ret
    exact ⟨none, 0, rfl, World.ownsRow_nil _ _ _ _, Below.refl _ _⟩
  · have hpos : decide ((n : Int) > 0) = true := by rw [decide_eq_true_iff]; omega
    obtain ⟨i0, hi0, hz0, hz1, hz2⟩ := info_parts (show (Tryz.prog.info? 2).map (fun i => (i.zero, i.size, i.bytes)) = some (some (.int .i64 0), 1, 8) by kernel_rfl)
    have hz := fun ty => Lib.run_append_nil_zeros (P := Tryz.prog) w 26 3 ty 2 i0 (.int .i64 0) .i64 .i64 Tryz.underlying26 Tryz.underlying3 hi0 hz0 n (by omega) (by rw [hz1]; omega) (by omega) (by rw [hz2]; omega)
    obtain ⟨G, hG⟩ : ∃ G, G = grownCap w n 0 2 := ⟨_, rfl⟩
    have hGn : n ≤ G := by rw [hG]; exact grownCap_ge w _ _ _
    have hGm : G ≤ maxLen := by rw [hG]; exact grownCap_le_maxLen w n 0 2 (by unfold maxLen; omega)
    rw [← hG] at hz
    obtain ⟨ROW, hROW⟩ : ∃ ROW : Array Value, ROW = Builtin.zeroCells (Value.int .i64 0).cells n ++ Builtin.zeroCells (Value.int .i64 0).cells (G - n) := ⟨_, rfl⟩
    rw [← hROW] at hz
    have hRs : ROW.size = G * 1 := by
      rw [hROW, Array.size_append]
      simp [Builtin.zeroCells, Value.cells]
      omega
    have HO := hid (World.ownsRow_made w.drew ROW G (base := w.heap.size) (e := 2) (size := 1) (by simp) hGm hRs)
    have HB := hid ((Below.refl w.heap.size w).drew.alloc (by simp) (.cells ROW 2))
    clear hG hROW hRs hi0 hz0 hz1 hz2
    go_enter Tryz.func93, Tryz.ntmps93
    go_wp2_with (at_builtin; refine Lib.wpList_append_run _ rfl _ _ _ _ rfl _ _ rfl rfl _ _ (hz _) ?_)
    go_ret
    exact ⟨some ⟨w.heap.size, 0, none⟩, G, rfl, HO.out, HB.out⟩
set_option maxRecDepth 100000 in
set_option maxHeartbeats 1000000 in
theorem concat_I (q : Nat) (l1 l2 : List Int) (A1 A2 : Option Addr) (c1 c2 : Nat) (w : World) (h1 : SlA en1 1 w A1 l1) (h2 : SlA en1 1 w A2 l2) (n1 : A1 = none ∧ c1 = 0 ∨ A1 ≠ none) (n2 : A2 = none ∧ c2 = 0 ∨ A2 ≠ none)
    (hq0 : w.cell? ⟨q, 0, none⟩ = some (.slice A1 l1.length c1)) (hq1 : w.cell? ⟨q, 1, none⟩ = some (.slice A2 l2.length c2)) (hs : l1.length + l2.length ≤ 1048576) :
    Calls Tryz.prog 64 #[.slice (some ⟨q, 0, none⟩) 2 2] w (ResR en1 1 2 w (l1 ++ l2)) := by
  have HG := hid (fun W => grow_en1_I (l1.length + l2.length) W (by omega))
  have H1 := hid h1
  have H2 := hid h2
  have hlen : (l1 ++ l2).length = l1.length + l2.length := List.length_append
  have HL := hid hlen
  have e1 : l1.length = 0 → l1 = [] := List.eq_nil_of_length_eq_zero
  clear h1 h2 hlen e1
  obtain ⟨m1, hm1⟩ : ∃ m, l1.length = m := ⟨_, rfl⟩
  obtain ⟨m2, hm2⟩ : ∃ m, l2.length = m := ⟨_, rfl⟩
  rw [hm1] at hq0
  rw [hm2] at hq1
  rw [hm1, hm2] at hs HG HL
  have HM1 := hid hm1
  have HM2 := hid hm2
  clear hm1 hm2
  go_enter Tryz.func64, Tryz.ntmps64
  go_wp2_with fail
  go_loopw [3, 11] (fun sv kv wr => ∃ k : Nat, k ≤ 2 ∧ kv = .int .i64 k ∧ sv = .int .i64 (sz2 m1 m2 k : Nat) ∧ wr = w) (fun _ kv _ => 2 - (intOf kv).toNat)
  case atStart => exact ⟨0, by omega, rfl, rfl, rfl⟩
  case round =>
    obtain ⟨k, hk, rfl, rfl, hww⟩ := hrel
    have hww2 := hww.symm
    subst hww2
    clear hww
    rcases (by omega : k = 0 ∨ k = 1 ∨ k = 2) with rfl | rfl | rfl
    · have hw : IntKind.i64.wrap ((m1 : Nat) : Int) = (m1 : Int) := IntWalk.i64_in _ (by omega)
      have hw0 : IntKind.i64.wrap (0 + ((m1 : Nat) : Int)) = (m1 : Int) := by rw [Int.zero_add]; exact hw
      have hn0 : decide ((m1 : Int) < 0) = false := by rw [decide_eq_false_iff_not]; omega
      rw [show sz2 m1 m2 0 = 0 from rfl]
      go_wp2_with fail
      exact ⟨⟨1, by omega, rfl, rfl, by first | rfl | trivial⟩, by simp [intOf]⟩
    · have hw0 : IntKind.i64.wrap (((m1 : Nat) : Int) + ((m2 : Nat) : Int)) = (m1 : Int) + (m2 : Int) := IntWalk.i64_in _ (by omega)
      have hn0 : decide ((m1 : Int) + (m2 : Int) < 0) = false := by rw [decide_eq_false_iff_not]; omega
      rw [show sz2 m1 m2 1 = m1 from rfl]
      go_wp2_with fail
      exact ⟨⟨2, by omega, rfl, by rw [show sz2 m1 m2 2 = m1 + m2 from rfl]; go_num, by first | rfl | trivial⟩, by simp [intOf]⟩
    · have hcast : ((m1 + m2 : Nat) : Int) = (m1 : Int) + (m2 : Int) := by omega
      rw [show sz2 m1 m2 2 = m1 + m2 from rfl]
      have HC := hid hcast
      clear hcast
      go_wp2_with fail
      refine (HG.out _).mono ?_
      rintro e w1 ⟨A0, c0, rfl, own0, hb0⟩
      have HO0 := hid own0
      have HB0 := hid hb0
      have g0 := cell_on hb0 hq0
      have g1 := cell_on hb0 hq1
      clear own0 hb0
      go_wp2_with fail
      go_loopw [6, 27] (fun o kv wr => ∃ (k : Nat) (A : Option Addr) (cc : Nat), k ≤ 2 ∧ kv = .int .i64 k ∧ o = .slice A (sz2 m1 m2 k) cc ∧ wr.ownsRow w.heap.size 2 1 (.slice A (sz2 m1 m2 k) cc) (sz2 m1 m2 k) ((pre2 l1 l2 k).flatMap en1) ∧ Below w.heap.size w wr) (fun _ kv _ => 2 - (intOf kv).toNat)
      case atStart => exact ⟨0, A0, c0, by omega, rfl, rfl, HO0.out, HB0.out⟩
      case round =>
        obtain ⟨k, A, cc, hk, rfl, rfl, own, hbl⟩ := hrel
        have Ho := hid own
        have HB := hid hbl
        have hz := hbl.size
        have y0 := cell_on hbl hq0
        have y1 := cell_on hbl hq1
        rcases (by omega : k = 0 ∨ k = 1 ∨ k = 2) with rfl | rfl | rfl
        · have Hc := hid ((H1.out.below hbl).flat en1_length)
          rw [HM1.out] at Hc
          have hfl : (l1.flatMap en1).length = m1 * 1 := by rw [flatMap_len en1_length, HM1.out]
          clear own hbl
          rw [show sz2 m1 m2 0 = 0 from rfl] at Ho
          try rw [show sz2 m1 m2 0 = 0 from rfl]
          go_wp2_with (at_builtin; refine app_many rfl _ _ 26 rfl w.heap.size 2 (.int .i64 0) 1 8 Tryz.underlying26 (by kernel_rfl) rfl (by decide) _ 0 ((pre2 l1 l2 0).flatMap en1) rfl Ho.out A1 m1 c1 (l1.flatMap en1) rfl ?c1 ?c6 ?c2 ?c3 ?c4 (by decide) ?c5 ?_)
          case c1 => exact hfl
          case c6 => exact Hc.out
          case c2 => exact oneCell_flat (fun p u hu => by simp [en1] at hu; subst hu; rfl) _
          case c3 => exact fun _ => n1
          case c4 => omega
          case c5 => exact hz
          intro v4 w4 own4 hg4 hat4
          obtain ⟨A4, c4, rfl⟩ := own_slice own4
          have HB4 := hid (HB.out.grown hg4 hz (fun g hg => (Ho.out.lt g hg).1))
          have HO4 := hid own4
          clear own4 hg4 hat4
          go_wp2_with fail
          refine ⟨⟨1, A4, c4, by omega, rfl, rfl, ?_, HB4.out⟩, by simp [intOf]⟩
          have := HO4.out
          simpa [pre2, sz2] using this
        · have Hc := hid ((H2.out.below hbl).flat en1_length)
          rw [HM2.out] at Hc
          have hfl : (l2.flatMap en1).length = m2 * 1 := by rw [flatMap_len en1_length, HM2.out]
          clear own hbl
          rw [show sz2 m1 m2 1 = m1 from rfl] at Ho
          try rw [show sz2 m1 m2 1 = m1 from rfl]
          go_wp2_with (at_builtin; refine app_many rfl _ _ 26 rfl w.heap.size 2 (.int .i64 0) 1 8 Tryz.underlying26 (by kernel_rfl) rfl (by decide) _ m1 ((pre2 l1 l2 1).flatMap en1) rfl Ho.out A2 m2 c2 (l2.flatMap en1) rfl ?c1 ?c6 ?c2 ?c3 ?c4 (by decide) ?c5 ?_)
          case c1 => exact hfl
          case c6 => exact Hc.out
          case c2 => exact oneCell_flat (fun p u hu => by simp [en1] at hu; subst hu; rfl) _
          case c3 => exact fun _ => n2
          case c4 => omega
          case c5 => exact hz
          intro v4 w4 own4 hg4 hat4
          obtain ⟨A4, c4, rfl⟩ := own_slice own4
          have HB4 := hid (HB.out.grown hg4 hz (fun g hg => (Ho.out.lt g hg).1))
          have HO4 := hid own4
          clear own4 hg4 hat4
          go_wp2_with fail
          refine ⟨⟨2, A4, c4, by omega, rfl, rfl, ?_, HB4.out⟩, by simp [intOf]⟩
          have := HO4.out
          rw [show pre2 l1 l2 2 = l1 ++ l2 from rfl, List.flatMap_append]
          exact this
        · clear own hbl
          rw [show sz2 m1 m2 2 = m1 + m2 from rfl] at Ho
          try rw [show sz2 m1 m2 2 = m1 + m2 from rfl]
          go_wp2_with fail
          go_ret
          have := Ho.out
          rw [show pre2 l1 l2 2 = l1 ++ l2 from rfl] at this
          exact ⟨A, cc, by rw [HL.out]; rfl, HB.out, by rw [HL.out]; exact this⟩
/-- Gaps without one of them. -/
def lessG (gs : List Int) (i : Nat) : List Int := gs.take i ++ gs.drop (i + 1)
theorem less_len {gs : List Int} {i : Nat} (h : i < gs.length) : (lessG gs i).length = 0 + i + (gs.length - (i + 1)) := by
  unfold lessG
  rw [List.length_append, List.length_take, List.length_drop]
  omega
def firstOk (p : Nat → Bool) : Nat → Option Nat
  | 0 => none
  | k + 1 => match firstOk p k with
    | some i => some i
    | none => if p k = true then some k else none
theorem firstOk_next {p : Nat → Bool} {k : Nat} (h : firstOk p k = none) (hp : p k = false) : firstOk p (k + 1) = none := by
  unfold firstOk
  rw [h, hp]
  rfl
theorem firstOk_at {p : Nat → Bool} {k : Nat} (h : firstOk p k = none) (hp : p k = true) : ∀ n, k < n → firstOk p n = some k
  | 0, hk => by omega
  | n + 1, hk => by
    unfold firstOk
    by_cases e : k = n
    · subst e
      rw [h, hp]
      rfl
    · rw [firstOk_at h hp n (by omega)]
def okN (xs : List Pc) (gs : List Int) (most : Int) (i : Nat) : Bool := decide (leftG xs (lessG gs i) ≤ most)
def needR (gs : List Int) : Option Nat → Int × Int
  | some i => (gs.getD i 0, 0)
  | none => (0, 6)
def NeedlessGapG (wi hi : Int) (xs : List Pc) (gs : List Int) (most : Int) : Int × Int :=
  if gapsG wi hi xs gs = 0 then (if leftG xs gs ≤ most then needR gs (firstOk (okN xs gs most) gs.length) else (0, 4)) else (0, gapsG wi hi xs gs)
theorem drop_en1 {w : World} {b o : Nat} {l : List Int} (h : SlA en1 1 w (some ⟨b, o, none⟩) l) (k : Nat) : SlA en1 1 w (some ⟨b, o + k, none⟩) (l.drop k) := by
  refine ⟨Nat.le_trans (by rw [List.length_drop]; omega) h.small, fun hp => ?_⟩
  rw [List.length_drop] at hp
  obtain ⟨b', o', e, hlt, hc⟩ := h.cells (by omega)
  cases e
  refine ⟨b, o + k, rfl, hlt, fun i p hi j u hu => ?_⟩
  rw [List.getElem?_drop] at hi
  have := hc (k + i) p hi j u hu
  rw [show o + k + (i * 1 + j) = o + ((k + i) * 1 + j) by omega]
  exact this
theorem empty_en1 {w : World} {a : Option Addr} {l : List Int} (h : l.length = 0) : SlA en1 1 w a l := ⟨by omega, fun hp => by omega⟩
theorem left_len_S (b : Nat) (wi hi : Int) (a : Option Addr) (c : Nat) (xs : List Pc) (a2 : Option Addr) (c2 : Nat) (gs : List Int) (w : World) (hB : BrdOk xs) (hn : xs.length ≤ 60) (hb : BdA w b wi hi a xs.length c) (h : SlA Pc.enc 5 w a xs) (h2 : SlA en1 1 w a2 gs) (m : Nat) (hm : m = gs.length) :
    Calls Tryz.prog 47 #[.pointer (some ⟨b, 0, none⟩), .slice a2 m c2] w fun e w' => e = .returned (.int .i64 (leftG xs gs)) ∧ Below w.heap.size w w' := by
  subst hm
  exact left_S b wi hi a c xs a2 c2 gs w hB hn hb h h2
theorem without_len_I (b : Nat) (wi hi : Int) (a : Option Addr) (c : Nat) (xs : List Pc) (a2 : Option Addr) (c2 : Nat) (gs : List Int) (w : World) (hs : xs.length ≤ 1048576) (hb : BdA w b wi hi a xs.length c) (h : SlA Pc.enc 5 w a xs) (h2 : SlA en1 1 w a2 gs) (m : Nat) (hm : m = gs.length) :
    Calls Tryz.prog 51 #[.pointer (some ⟨b, 0, none⟩), .slice a2 m c2] w (ResBd w wi hi (keepL gs 0 xs)) := by
  subst hm
  exact without_I b wi hi a c xs a2 c2 gs w hs hb h h2
set_option maxRecDepth 100000 in
set_option maxHeartbeats 2000000 in
theorem NeedlessGap_S (w : World) (wi hi : Int) (wl : -128 ≤ wi) (wu : wi ≤ 127) (hl : -128 ≤ hi) (hu : hi ≤ 127) (a : Option Addr) (c : Nat) (xs : List Pc) (h : SlA Pc.enc 5 w a xs) (_ : a = none → c = 0) (ok : ∀ p ∈ xs, p.Ok) (hs : xs.length ≤ 1048576) (a2 : Option Addr) (c2 : Nat) (gs : List Int) (h2 : SlA en1 1 w a2 gs) (_ : a2 = none → c2 = 0) (hcap : gs.length ≤ c2) (ok2 : ∀ p ∈ gs, -9223372036854775808 ≤ p ∧ p ≤ 9223372036854775807) (hs2 : gs.length ≤ 1048576) (most : Int) (ml : -9223372036854775808 ≤ most) (mu : most ≤ 9223372036854775807) :
    Calls Tryz.prog 27 #[.agg #[.int .i8 wi, .int .i8 hi, .slice a xs.length c], .slice a2 gs.length c2, .int .i64 most] w fun e w' => e = .returned (.tuple #[.int .i64 (NeedlessGapG wi hi xs gs most).1, .int .i64 (NeedlessGapG wi hi xs gs most).2]) ∧ Below w.heap.size w w' := by
  obtain ⟨W0, hW0⟩ : ∃ W, W = w.alloc (.cells #[.int .i8 wi, .int .i8 hi, .slice a xs.length c] 32) := ⟨_, rfl⟩
  have B0 : Below w.heap.size w W0 := by rw [hW0]; exact (Below.refl _ _).alloc (Nat.le_refl _) _
  have hbd : BdA W0 w.heap.size wi hi a xs.length c := by rw [hW0]; exact bd_box _ _ _ _ _ _ _
  have HGi := hid (given_S w.heap.size wi hi a c xs a2 c2 gs W0 ⟨wl, wu, hl, hu⟩ hs hbd (h.below B0) ok (h2.below B0) ok2)
  have HB0 := hid B0
  obtain ⟨v, hv⟩ : ∃ v, gapsG wi hi xs gs = v := ⟨_, rfl⟩
  rw [hv] at HGi
  by_cases hv0 : v = 0
  · have G := hid (show NeedlessGapG wi hi xs gs most = if leftG xs gs ≤ most then needR gs (firstOk (okN xs gs most) gs.length) else (0, 4) by unfold NeedlessGapG; rw [hv, if_pos hv0])
    subst hv0
    obtain ⟨hB, hn, _⟩ := gaps_zero hv
    have HL := hid (fun W (hb : Below W0.heap.size W0 W) A3 c3 l m (hl : SlA en1 1 W A3 l) (hm : m = l.length) => left_len_S w.heap.size wi hi a c xs A3 c3 l W hB (by omega) (hbd.below hb hbd.lt) ((h.below B0).below hb) hl m hm)
    have HGS := hid (fun W (hb : Below W0.heap.size W0 W) => (h2.below B0).below hb)
    obtain ⟨L, hLg⟩ : ∃ L, leftG xs gs = L := ⟨_, rfl⟩
    rw [hLg] at G
    have HLG := hid hLg
    clear B0 hbd h h2 hv hLg
    by_cases hLm : L ≤ most
    · rw [if_pos hLm] at G
      have eL : decide (L > most) = false := by rw [decide_eq_false_iff_not]; omega
      go_enter Tryz.func27, Tryz.ntmps27
      go_wp2_with fail
      rw [← hW0]
      clear hW0
      refine HGi.out.mono ?_
      rintro e w1 ⟨rfl, hb1⟩
      have HL1 := hid (HL.out w1 hb1 a2 c2 gs gs.length (HGS.out w1 hb1) rfl)
      rw [HLG.out] at HL1
      have B1 := hid hb1
      clear hb1
      go_wp2_with fail
      refine HL1.out.mono ?_
      rintro e w2 ⟨rfl, hb2⟩
      have B2 := hid (below_of B1.out B1.out.size hb2)
      have hz0 := HB0.out.size
      clear hb2
      go_wp2_with fail
      go_loopw [9] (fun iv wr => ∃ k : Nat, k ≤ gs.length ∧ iv = .int .i64 k ∧ firstOk (okN xs gs most) k = none ∧ Below W0.heap.size W0 wr) (fun iv _ => gs.length - (intOf iv).toNat)
      case atStart => exact ⟨0, Nat.zero_le _, rfl, rfl, B2.out⟩
      case round =>
        obtain ⟨k, hk, rfl, hfk, hbl⟩ := hrel
        have HB := hid hbl
        have HF := hid hfk
        clear hfk
        by_cases hlt : k < gs.length
        · have hd : decide ((k : Int) < (gs.length : Int)) = true := by rw [decide_eq_true_iff]; omega
          have hki : (k : Int) < (gs.length : Int) := by omega
          have hsl := HGS.out wr hbl
          obtain ⟨b2, o2, rfl, hb2', hc2⟩ := en1_cells hsl (by omega)
          have e1 : gs[k]? = some gs[k] := List.getElem?_eq_getElem hlt
          have HE1 := hid e1
          have f0 := hc2 k _ e1
          obtain ⟨V, hV⟩ : ∃ V, V = wr := ⟨_, rfl⟩
          subst hV
          have HSL := hid hsl
          have hll := less_len hlt
          have hw1 : IntKind.i64.wrap ((k : Int) + 1) = (k : Int) + 1 := IntWalk.i64_in _ (by omega)
          have hk1 : (k : Int) + 1 ≤ (gs.length : Int) := by omega
          have hkc : (k : Int) ≤ (c2 : Int) := by omega
          have hk0 : (0 : Int) ≤ (k : Int) + 1 := by omega
          have htn : ((k : Int) + 1).toNat = k + 1 := by omega
          have HT1 := hid (show ((gs.take k).flatMap en1).length = k * 1 by rw [flatMap_len en1_length, List.length_take]; omega)
          have HT2 := hid (show ((gs.drop (k + 1)).flatMap en1).length = (gs.length - (k + 1)) * 1 by rw [flatMap_len en1_length, List.length_drop])
          have HLL := hid hll
          have HBA := hid (fun o => ((Below.refl V.heap.size V).alloc (Nat.le_refl _) o).drew)
          have HGK := hid (show gs.getD k 0 = gs[k] by rw [List.getD_eq_getElem?_getD, e1]; rfl)
          generalize gs[k] = g at *
          clear hbl hc2 hll e1
          by_cases hcc : c2 = k + 1
          · subst hcc
            have hkc1 : (k : Int) ≤ (k : Int) + 1 := by omega
            go_upto_region 9 with fail
            refine wp_region_held_drew (S := fun _ => True) (by kernel_rfl) (trivial) (fun hH0 => ?_)
            refine wpAnyH_take (i := 1) (oi := ⟨some 27, _, _, _, _, _⟩) (v := ?_) rfl (by kernel_rfl) (by kernel_rfl) (by kernel_rfl) (fun _ _ _ h => h) (Or.inl ⟨by kernel_rfl, ?_⟩) hH0 ?_
            rotate_left 1
            · (intro W hSw; (try dsimp only at hSw); go_simp; try with_reducible rfl)
            try simp only [Act.put, List.setIfInBounds_toArray, List.set_cons_zero, List.set_cons_succ]
            refine wpAnyH_take (i := 2) (oi := ⟨some 28, _, _, _, _, _⟩) (v := ?_) rfl (by kernel_rfl) (by kernel_rfl) (by kernel_rfl) (fun _ _ _ h => h) (Or.inl ⟨by kernel_rfl, ?_⟩) hH0 ?_
            rotate_left 1
            · (intro W hSw; (try dsimp only at hSw); go_simp; try with_reducible rfl)
            try simp only [Act.put, List.setIfInBounds_toArray, List.set_cons_zero, List.set_cons_succ]
            refine wpAnyH_take (i := 3) (oi := ⟨some 29, _, _, _, _, _⟩) (v := ?_) rfl (by kernel_rfl) (by kernel_rfl) (by kernel_rfl) (fun _ _ _ h => h) (Or.inl ⟨by kernel_rfl, ?_⟩) hH0 ?_
            rotate_left 1
            · (intro W hSw; (try dsimp only at hSw); go_simp; try with_reducible rfl)
            try simp only [Act.put, List.setIfInBounds_toArray, List.set_cons_zero, List.set_cons_succ]
            refine wpAnyH_take (i := 5) (oi := ⟨some 31, _, _, _, _, _⟩) (v := ?_) rfl (by kernel_rfl) (by kernel_rfl) (by kernel_rfl) (fun _ _ _ h => h) (Or.inl ⟨by kernel_rfl, ?_⟩) hH0 ?_
            rotate_left 1
            · (intro W hSw; (try dsimp only at hSw); go_simp; try with_reducible rfl)
            try simp only [Act.put, List.setIfInBounds_toArray, List.set_cons_zero, List.set_cons_succ]
            refine wpAnyH_take (i := 6) (oi := ⟨some 32, _, _, _, _, _⟩) (v := ?_) rfl (by kernel_rfl) (by kernel_rfl) (by kernel_rfl) (fun _ _ _ h => h) (Or.inl ⟨by kernel_rfl, ?_⟩) hH0 ?_
            rotate_left 1
            · (intro W hSw; (try dsimp only at hSw); go_simp; try with_reducible rfl)
            try simp only [Act.put, List.setIfInBounds_toArray, List.set_cons_zero, List.set_cons_succ]
            refine wpAnyH_take (i := 7) (oi := ⟨some 33, _, _, _, _, _⟩) (v := ?_) rfl (by kernel_rfl) (by kernel_rfl) (by kernel_rfl) (fun _ _ _ h => h) (Or.inl ⟨by kernel_rfl, ?_⟩) hH0 ?_
            rotate_left 1
            · (intro W hSw; (try dsimp only at hSw); go_simp; try with_reducible rfl)
            try simp only [Act.put, List.setIfInBounds_toArray, List.set_cons_zero, List.set_cons_succ]
            refine wpAnyH_take (i := 8) (oi := ⟨some 34, _, _, _, _, _⟩) (v := ?_) rfl (by kernel_rfl) (by kernel_rfl) (by kernel_rfl) (fun _ _ _ h => h) (Or.inl ⟨by kernel_rfl, ?_⟩) hH0 ?_
            rotate_left 1
            · (intro W hSw; (try dsimp only at hSw); go_simp; try with_reducible rfl)
            try simp only [Act.put, List.setIfInBounds_toArray, List.set_cons_zero, List.set_cons_succ]
            refine wpAnyH_ready (rs := [0]) (by kernel_rfl) (by simp) ?_
            refine AllReadyH.cons rfl (fun K hK => ?_) AllReadyH.nil
            go_simp
            refine hK.out _ _ (trivial) (fun hH1 => ?_)
            clear hK K
            try simp only [Act.put, List.setIfInBounds_toArray, List.set_cons_zero, List.set_cons_succ]
            refine wpAnyH_ready (rs := [4]) (by kernel_rfl) (by simp) ?_
            refine AllReadyH.cons rfl (fun K hK => ?_) AllReadyH.nil
            refine step_app_many (by rfl) _ _ 26 (by rfl) V.heap.size 2 (.int .i64 0) 1 8 Tryz.underlying26 (by kernel_rfl) rfl (by decide) (.slice (some ⟨V.heap.size, 0, none⟩) 0 0) 0 [] (by rfl) ((World.ownsRow_lit V #[] 0 (Nat.le_refl _) (by simp [maxLen]) (by simp)).drew) (some ⟨b2, o2, none⟩) k (k + 1) ((gs.take k).flatMap en1) (by rfl) HT1.out (fun hk0 => ((take_en1 (HSL.out.below (HBA.out _)) k).flat en1_length) (by rw [List.length_take]; omega)) (oneCell_flat (fun p u hu => by simp [en1] at hu; subst hu; rfl) _) (fun _ => .inr (by simp)) (by omega) (by decide) (by simp) ?_
            intro v5 w5 own5 hg5
            have hb5 : Below V.heap.size V w5 := (HBA.out _).grown hg5 (by simp) (by simp [Value.ownBlock])
            have hz5 := hb5.size
            refine hK.out _ _ (trivial) (fun hH2 => ?_)
            clear hK K
            try simp only [Act.put, List.setIfInBounds_toArray, List.set_cons_zero, List.set_cons_succ]
            refine wpAnyH_ready (rs := [9]) (by kernel_rfl) (by simp) ?_
            refine AllReadyH.cons rfl (fun K hK => ?_) AllReadyH.nil
            refine step_app_many (by rfl) _ _ 26 (by rfl) V.heap.size 2 (.int .i64 0) 1 8 Tryz.underlying26 (by kernel_rfl) rfl (by decide) v5 (0 + k) ([] ++ (gs.take k).flatMap en1) (by rfl) own5 (some ⟨b2, o2, none⟩) (0) (0) ([]) (by rfl) (rfl) (fun hk0 => absurd hk0 (by omega)) ((fun u hu => by simp at hu)) (fun _ => .inr (by simp)) (by omega) (by decide) hz5 ?_
            intro v6 w6 own6 hg6
            have hb6 : Below V.heap.size V w6 := hb5.grown hg6 hz5 (fun g hg => (own5.lt g hg).1)
            refine hK.out _ _ (trivial) (fun hH3 => ?_)
            clear hK K
            try simp only [Act.put, List.setIfInBounds_toArray, List.set_cons_zero, List.set_cons_succ]
            refine wpAnyH_take (i := 10) (oi := ⟨some 10, _, _, _, _, _⟩) (v := ?_) rfl (by kernel_rfl) (by kernel_rfl) (by kernel_rfl) (fun _ _ _ h => h) (Or.inl ⟨by kernel_rfl, ?_⟩) hH3 ?_
            rotate_left 1
            · (intro W hSw; (try dsimp only at hSw); go_simp; try with_reducible rfl)
            try simp only [Act.put, List.setIfInBounds_toArray, List.set_cons_zero, List.set_cons_succ]
            refine wpAnyH_done (by kernel_rfl) ?_ _
            have HB6V := hid hb6
            have HB6 := hid (below_of HB.out HB.out.size hb6)
            obtain ⟨A6, c6, rfl⟩ := own_slice own6
            have hlg : lessG gs k = gs.take k := by unfold lessG; rw [List.drop_of_length_le (by omega), List.append_nil]
            have hn6 : 0 + k + 0 = (lessG gs k).length := by have := HLL.out; omega
            rw [List.nil_append, List.append_nil, ← hlg, hn6] at own6
            have HL6 := hid (fun m (hm : m = (lessG gs k).length) => HL.out w6 HB6.out A6 c6 (lessG gs k) m (en1_row own6) hm)
            have HOK := hid (show okN xs gs most k = decide (leftG xs (lessG gs k) ≤ most) from rfl)
            clear own5 own6 hg5 hg6 hb5 hb6 hz5
            generalize leftG xs (lessG gs k) = L2 at *
            by_cases hL2 : L2 ≤ most
            · have eL2 : decide (L2 ≤ most) = true := decide_eq_true hL2
              have HFA := hid (firstOk_at HF.out (HOK.out.trans eL2) gs.length hlt)
              rw [HFA.out] at G
              go_wp2_with fail
              refine (HL6.out _ (by have := HLL.out; omega)).mono ?_
              rintro e w7 ⟨rfl, hb7⟩
              have B7 := hid (below_of HB6.out HB6.out.size hb7)
              have f7 := cell_on hb7 (cell_on HB6V.out f0)
              clear hb7
              go_wp2_with fail
              refine bodyPost_ret (v := .tuple #[.int .i64 g, .int .i64 0]) (by simp [results, Tryz.results27, go_sem]) rfl ?_
              exact ⟨by rw [G.out]; show _ = Ending.returned (.tuple #[.int .i64 (gs.getD k 0), .int .i64 0]); rw [HGK.out], below_of HB0.out hz0 B7.out⟩
            · have eL2 : decide (L2 ≤ most) = false := decide_eq_false hL2
              have HFN := hid (firstOk_next HF.out (HOK.out.trans eL2))
              go_wp2_with fail
              refine (HL6.out _ (by have := HLL.out; omega)).mono ?_
              rintro e w7 ⟨rfl, hb7⟩
              have B7 := hid (below_of HB6.out HB6.out.size hb7)
              clear hb7
              go_wp2_with fail
              exact ⟨⟨k + 1, by omega, by go_num, HFN.out, B7.out⟩, by simp [intOf]; omega⟩
          · have hcn : ¬ c2 = k + 1 := hcc
            go_upto_region 9 with fail
            refine wp_region_held_drew (S := fun _ => True) (by kernel_rfl) (trivial) (fun hH0 => ?_)
            refine wpAnyH_take (i := 1) (oi := ⟨some 27, _, _, _, _, _⟩) (v := ?_) rfl (by kernel_rfl) (by kernel_rfl) (by kernel_rfl) (fun _ _ _ h => h) (Or.inl ⟨by kernel_rfl, ?_⟩) hH0 ?_
            rotate_left 1
            · (intro W hSw; (try dsimp only at hSw); go_simp; try with_reducible rfl)
            try simp only [Act.put, List.setIfInBounds_toArray, List.set_cons_zero, List.set_cons_succ]
            refine wpAnyH_take (i := 2) (oi := ⟨some 28, _, _, _, _, _⟩) (v := ?_) rfl (by kernel_rfl) (by kernel_rfl) (by kernel_rfl) (fun _ _ _ h => h) (Or.inl ⟨by kernel_rfl, ?_⟩) hH0 ?_
            rotate_left 1
            · (intro W hSw; (try dsimp only at hSw); go_simp; try with_reducible rfl)
            try simp only [Act.put, List.setIfInBounds_toArray, List.set_cons_zero, List.set_cons_succ]
            refine wpAnyH_take (i := 3) (oi := ⟨some 29, _, _, _, _, _⟩) (v := ?_) rfl (by kernel_rfl) (by kernel_rfl) (by kernel_rfl) (fun _ _ _ h => h) (Or.inl ⟨by kernel_rfl, ?_⟩) hH0 ?_
            rotate_left 1
            · (intro W hSw; (try dsimp only at hSw); go_simp; try with_reducible rfl)
            try simp only [Act.put, List.setIfInBounds_toArray, List.set_cons_zero, List.set_cons_succ]
            refine wpAnyH_take (i := 5) (oi := ⟨some 31, _, _, _, _, _⟩) (v := ?_) rfl (by kernel_rfl) (by kernel_rfl) (by kernel_rfl) (fun _ _ _ h => h) (Or.inl ⟨by kernel_rfl, ?_⟩) hH0 ?_
            rotate_left 1
            · (intro W hSw; (try dsimp only at hSw); go_simp; try with_reducible rfl)
            try simp only [Act.put, List.setIfInBounds_toArray, List.set_cons_zero, List.set_cons_succ]
            refine wpAnyH_take (i := 6) (oi := ⟨some 32, _, _, _, _, _⟩) (v := ?_) rfl (by kernel_rfl) (by kernel_rfl) (by kernel_rfl) (fun _ _ _ h => h) (Or.inl ⟨by kernel_rfl, ?_⟩) hH0 ?_
            rotate_left 1
            · (intro W hSw; (try dsimp only at hSw); go_simp; try with_reducible rfl)
            try simp only [Act.put, List.setIfInBounds_toArray, List.set_cons_zero, List.set_cons_succ]
            refine wpAnyH_take (i := 7) (oi := ⟨some 33, _, _, _, _, _⟩) (v := ?_) rfl (by kernel_rfl) (by kernel_rfl) (by kernel_rfl) (fun _ _ _ h => h) (Or.inl ⟨by kernel_rfl, ?_⟩) hH0 ?_
            rotate_left 1
            · (intro W hSw; (try dsimp only at hSw); go_simp; try with_reducible rfl)
            try simp only [Act.put, List.setIfInBounds_toArray, List.set_cons_zero, List.set_cons_succ]
            refine wpAnyH_take (i := 8) (oi := ⟨some 34, _, _, _, _, _⟩) (v := ?_) rfl (by kernel_rfl) (by kernel_rfl) (by kernel_rfl) (fun _ _ _ h => h) (Or.inl ⟨by kernel_rfl, ?_⟩) hH0 ?_
            rotate_left 1
            · (intro W hSw; (try dsimp only at hSw); go_simp; try with_reducible rfl)
            try simp only [Act.put, List.setIfInBounds_toArray, List.set_cons_zero, List.set_cons_succ]
            refine wpAnyH_ready (rs := [0]) (by kernel_rfl) (by simp) ?_
            refine AllReadyH.cons rfl (fun K hK => ?_) AllReadyH.nil
            go_simp
            refine hK.out _ _ (trivial) (fun hH1 => ?_)
            clear hK K
            try simp only [Act.put, List.setIfInBounds_toArray, List.set_cons_zero, List.set_cons_succ]
            refine wpAnyH_ready (rs := [4]) (by kernel_rfl) (by simp) ?_
            refine AllReadyH.cons rfl (fun K hK => ?_) AllReadyH.nil
            refine step_app_many (by rfl) _ _ 26 (by rfl) V.heap.size 2 (.int .i64 0) 1 8 Tryz.underlying26 (by kernel_rfl) rfl (by decide) (.slice (some ⟨V.heap.size, 0, none⟩) 0 0) 0 [] (by rfl) ((World.ownsRow_lit V #[] 0 (Nat.le_refl _) (by simp [maxLen]) (by simp)).drew) (some ⟨b2, o2, none⟩) k (c2) ((gs.take k).flatMap en1) (by rfl) HT1.out (fun hk0 => ((take_en1 (HSL.out.below (HBA.out _)) k).flat en1_length) (by rw [List.length_take]; omega)) (oneCell_flat (fun p u hu => by simp [en1] at hu; subst hu; rfl) _) (fun _ => .inr (by simp)) (by omega) (by decide) (by simp) ?_
            intro v5 w5 own5 hg5
            have hb5 : Below V.heap.size V w5 := (HBA.out _).grown hg5 (by simp) (by simp [Value.ownBlock])
            have hz5 := hb5.size
            refine hK.out _ _ (trivial) (fun hH2 => ?_)
            clear hK K
            try simp only [Act.put, List.setIfInBounds_toArray, List.set_cons_zero, List.set_cons_succ]
            refine wpAnyH_ready (rs := [9]) (by kernel_rfl) (by simp) ?_
            refine AllReadyH.cons rfl (fun K hK => ?_) AllReadyH.nil
            refine step_app_many (by rfl) _ _ 26 (by rfl) V.heap.size 2 (.int .i64 0) 1 8 Tryz.underlying26 (by kernel_rfl) rfl (by decide) v5 (0 + k) ([] ++ (gs.take k).flatMap en1) (by rfl) own5 (some ⟨b2, o2 + (k + 1), none⟩) (gs.length - (k + 1)) (c2 - (k + 1)) ((gs.drop (k + 1)).flatMap en1) (by rfl) (HT2.out) (fun hk0 => ((drop_en1 (HSL.out.below hb5) (k + 1)).flat en1_length) (by rw [List.length_drop]; omega)) (oneCell_flat (fun p u hu => by simp [en1] at hu; subst hu; rfl) _) (fun _ => .inr (by simp)) (by omega) (by decide) hz5 ?_
            intro v6 w6 own6 hg6
            have hb6 : Below V.heap.size V w6 := hb5.grown hg6 hz5 (fun g hg => (own5.lt g hg).1)
            refine hK.out _ _ (trivial) (fun hH3 => ?_)
            clear hK K
            try simp only [Act.put, List.setIfInBounds_toArray, List.set_cons_zero, List.set_cons_succ]
            refine wpAnyH_take (i := 10) (oi := ⟨some 10, _, _, _, _, _⟩) (v := ?_) rfl (by kernel_rfl) (by kernel_rfl) (by kernel_rfl) (fun _ _ _ h => h) (Or.inl ⟨by kernel_rfl, ?_⟩) hH3 ?_
            rotate_left 1
            · (intro W hSw; (try dsimp only at hSw); go_simp; try with_reducible rfl)
            try simp only [Act.put, List.setIfInBounds_toArray, List.set_cons_zero, List.set_cons_succ]
            refine wpAnyH_done (by kernel_rfl) ?_ _
            have HB6V := hid hb6
            have HB6 := hid (below_of HB.out HB.out.size hb6)
            obtain ⟨A6, c6, rfl⟩ := own_slice own6
            rw [List.nil_append, ← List.flatMap_append, ← HLL.out] at own6
            have HL6 := hid (fun m (hm : m = (lessG gs k).length) => HL.out w6 HB6.out A6 c6 (lessG gs k) m (en1_row own6) hm)
            have HOK := hid (show okN xs gs most k = decide (leftG xs (lessG gs k) ≤ most) from rfl)
            clear own5 own6 hg5 hg6 hb5 hb6 hz5
            generalize leftG xs (lessG gs k) = L2 at *
            by_cases hL2 : L2 ≤ most
            · have eL2 : decide (L2 ≤ most) = true := decide_eq_true hL2
              have HFA := hid (firstOk_at HF.out (HOK.out.trans eL2) gs.length hlt)
              rw [HFA.out] at G
              go_wp2_with fail
              refine (HL6.out _ (by have := HLL.out; omega)).mono ?_
              rintro e w7 ⟨rfl, hb7⟩
              have B7 := hid (below_of HB6.out HB6.out.size hb7)
              have f7 := cell_on hb7 (cell_on HB6V.out f0)
              clear hb7
              go_wp2_with fail
              refine bodyPost_ret (v := .tuple #[.int .i64 g, .int .i64 0]) (by simp [results, Tryz.results27, go_sem]) rfl ?_
              exact ⟨by rw [G.out]; show _ = Ending.returned (.tuple #[.int .i64 (gs.getD k 0), .int .i64 0]); rw [HGK.out], below_of HB0.out hz0 B7.out⟩
            · have eL2 : decide (L2 ≤ most) = false := decide_eq_false hL2
              have HFN := hid (firstOk_next HF.out (HOK.out.trans eL2))
              go_wp2_with fail
              refine (HL6.out _ (by have := HLL.out; omega)).mono ?_
              rintro e w7 ⟨rfl, hb7⟩
              have B7 := hid (below_of HB6.out HB6.out.size hb7)
              clear hb7
              go_wp2_with fail
              exact ⟨⟨k + 1, by omega, by go_num, HFN.out, B7.out⟩, by simp [intOf]; omega⟩
        · obtain rfl : k = gs.length := by omega
          have hd : decide ((gs.length : Int) < (gs.length : Int)) = false := by rw [decide_eq_false_iff_not]; omega
          rw [HF.out] at G
          clear hbl
          go_wp2_with fail
          refine bodyPost_ret (v := .tuple #[.int .i64 0, .int .i64 6]) (by simp [results, Tryz.results27, go_sem]) rfl ?_
          exact ⟨by rw [G.out]; rfl, below_of HB0.out hz0 HB.out⟩
    · rw [if_neg hLm] at G
      have eL : decide (L > most) = true := by rw [decide_eq_true_iff]; omega
      go_enter Tryz.func27, Tryz.ntmps27
      go_wp2_with fail
      rw [← hW0]
      clear hW0
      refine HGi.out.mono ?_
      rintro e w1 ⟨rfl, hb1⟩
      have HL1 := hid (HL.out w1 hb1 a2 c2 gs gs.length (HGS.out w1 hb1) rfl)
      rw [HLG.out] at HL1
      have B1 := hid hb1
      clear hb1
      go_wp2_with fail
      refine HL1.out.mono ?_
      rintro e w2 ⟨rfl, hb2⟩
      have B2 := hid (below_of HB0.out HB0.out.size (below_of B1.out B1.out.size hb2))
      clear hb2
      go_wp2_with fail
      refine bodyPost_ret (v := .tuple #[.int .i64 0, .int .i64 4]) (by simp [results, Tryz.results27, go_sem]) rfl ?_
      exact ⟨by rw [G.out], B2.out⟩
  · have G := hid (show NeedlessGapG wi hi xs gs most = (0, v) by unfold NeedlessGapG; rw [hv, if_neg hv0])
    have hne : (v != 0) = true := by simpa using hv0
    clear B0 hbd h h2 hv hv0
    go_enter Tryz.func27, Tryz.ntmps27
    go_wp2_with fail
    rw [← hW0]
    clear hW0
    refine HGi.out.mono ?_
    rintro e w1 ⟨rfl, hb1⟩
    have B1 := hid (below_of HB0.out HB0.out.size hb1)
    clear hb1
    go_wp2_with fail
    refine bodyPost_ret (v := .tuple #[.int .i64 0, .int .i64 v]) (by simp [results, Tryz.results27, go_sem]) rfl ?_
    exact ⟨by rw [G.out], B1.out⟩
set_option maxRecDepth 100000 in
set_option maxHeartbeats 2000000 in
theorem NeedlessGap_I (w : World) (wi hi : Int) (wl : -128 ≤ wi) (wu : wi ≤ 127) (hl : -128 ≤ hi) (hu : hi ≤ 127) (a : Option Addr) (c : Nat) (xs : List Pc) (h : SlA Pc.enc 5 w a xs) (hac : a = none → c = 0) (ok : ∀ p ∈ xs, p.Ok) (hs : xs.length ≤ 1048576) (a2 : Option Addr) (c2 : Nat) (gs : List Int) (h2 : SlA en1 1 w a2 gs) (hac2 : a2 = none → c2 = 0) (hcap : gs.length ≤ c2) (ok2 : ∀ p ∈ gs, -9223372036854775808 ≤ p ∧ p ≤ 9223372036854775807) (hs2 : gs.length ≤ 1048576) (most : Int) (ml : -9223372036854775808 ≤ most) (mu : most ≤ 9223372036854775807) :
    Calls Tryz.prog 28 #[.agg #[.int .i8 wi, .int .i8 hi, .slice a xs.length c], .slice a2 gs.length c2, .int .i64 most] w fun e w' => e = .returned (.tuple #[.int .i64 (NeedlessGapG wi hi xs gs most).1, .int .i64 (NeedlessGapG wi hi xs gs most).2]) ∧ Below w.heap.size w w' := by
  obtain ⟨W0, hW0⟩ : ∃ W, W = w.alloc (.cells #[.int .i8 wi, .int .i8 hi, .slice a xs.length c] 32) := ⟨_, rfl⟩
  have B0 : Below w.heap.size w W0 := by rw [hW0]; exact (Below.refl _ _).alloc (Nat.le_refl _) _
  have hbd : BdA W0 w.heap.size wi hi a xs.length c := by rw [hW0]; exact bd_box _ _ _ _ _ _ _
  have d0 : W0.cell? ⟨w.heap.size, 0, none⟩ = some (.int .i8 wi) := hbd.c0
  have d1 : W0.cell? ⟨w.heap.size, 1, none⟩ = some (.int .i8 hi) := hbd.c1
  have d2 : W0.cell? ⟨w.heap.size, 2, none⟩ = some (.slice a xs.length c) := hbd.c2
  have HCG := hid (CheckGaps_I W0 wi hi wl wu hl hu a c xs (h.below B0) hac ok hs a2 c2 gs (h2.below B0) hac2 ok2 hs2 most ml mu)
  have HB0 := hid B0
  obtain ⟨v, hv⟩ : ∃ v, gapsG wi hi xs gs = v := ⟨_, rfl⟩
  by_cases hv0 : v = 0
  · have G := hid (show NeedlessGapG wi hi xs gs most = if leftG xs gs ≤ most then needR gs (firstOk (okN xs gs most) gs.length) else (0, 4) by unfold NeedlessGapG; rw [hv, if_pos hv0])
    have GC : CheckGapsG wi hi xs gs most = (decide (leftG xs gs ≤ most), 0) := by unfold CheckGapsG; rw [hv, if_pos hv0]
    rw [GC] at HCG
    subst hv0
    obtain ⟨hB, hn, _⟩ := gaps_zero hv
    have HWI := hid (fun W (hb : Below W0.heap.size W0 W) A3 c3 l m (hl : SlA en1 1 W A3 l) (hm : m = l.length) => without_len_I w.heap.size wi hi a c xs A3 c3 l W hs (hbd.below hb hbd.lt) ((h.below B0).below hb) hl m hm)
    have HGS := hid (fun W (hb : Below W0.heap.size W0 W) => (h2.below B0).below hb)
    have HKB := hid (fun l => hB.part (keep_sub l xs 0))
    obtain ⟨L, hLg⟩ : ∃ L, leftG xs gs = L := ⟨_, rfl⟩
    rw [hLg] at G HCG
    clear B0 hbd h h2 hv hLg GC
    by_cases hLm : L ≤ most
    · rw [if_pos hLm] at G
      rw [decide_eq_true hLm] at HCG
      go_enter Tryz.func28, Tryz.ntmps28
      go_upto_region 1 with fail
      rw [← hW0]
      clear hW0
      go_wp2_with fail
      refine HCG.out.mono ?_
      rintro e w1 ⟨rfl, hb1⟩
      have B2 := hid hb1
      have hz0 := HB0.out.size
      clear hb1 d0 d1 d2
      go_wp2_with fail
      go_loopw [28] (fun iv wr => ∃ k : Nat, k ≤ gs.length ∧ iv = .int .i64 k ∧ firstOk (okN xs gs most) k = none ∧ Below W0.heap.size W0 wr) (fun iv _ => gs.length - (intOf iv).toNat)
      case atStart => exact ⟨0, Nat.zero_le _, rfl, rfl, B2.out⟩
      case round =>
        obtain ⟨k, hk, rfl, hfk, hbl⟩ := hrel
        have HB := hid hbl
        have HF := hid hfk
        clear hfk
        by_cases hlt : k < gs.length
        · have hd : decide ((k : Int) < (gs.length : Int)) = true := by rw [decide_eq_true_iff]; omega
          have hki : (k : Int) < (gs.length : Int) := by omega
          have hsl := HGS.out wr hbl
          obtain ⟨b2, o2, rfl, hb2', hc2⟩ := en1_cells hsl (by omega)
          have e1 : gs[k]? = some gs[k] := List.getElem?_eq_getElem hlt
          have HE1 := hid e1
          have f0 := hc2 k _ e1
          obtain ⟨V, hV⟩ : ∃ V, V = wr := ⟨_, rfl⟩
          subst hV
          have HSL := hid hsl
          have hll := less_len hlt
          have hw1 : IntKind.i64.wrap ((k : Int) + 1) = (k : Int) + 1 := IntWalk.i64_in _ (by omega)
          have hk1 : (k : Int) + 1 ≤ (gs.length : Int) := by omega
          have hkc : (k : Int) ≤ (c2 : Int) := by omega
          have hk0 : (0 : Int) ≤ (k : Int) + 1 := by omega
          have htn : ((k : Int) + 1).toNat = k + 1 := by omega
          have HBA := hid (fun o => ((Below.refl V.heap.size V).alloc (Nat.le_refl _) o).drew)
          have HGK := hid (show gs.getD k 0 = gs[k] by rw [List.getD_eq_getElem?_getD, e1]; rfl)
          have HTK := hid (show (gs.take k).length = k by rw [List.length_take]; omega)
          have HDL := hid (show (gs.drop (k + 1)).length = gs.length - (k + 1) from List.length_drop)
          generalize gs[k] = g at *
          clear hbl hc2 hll e1
          by_cases hcc : c2 = k + 1
          · subst hcc
            have hkc1 : (k : Int) ≤ (k : Int) + 1 := by omega
            have hcat : gs.take k ++ [] = lessG gs k := by unfold lessG; rw [List.drop_of_length_le (by omega)]
            have hcc1 := concat_I V.heap.size (gs.take k) [] (some ⟨b2, o2, none⟩) (some ⟨b2, o2, none⟩) (k + 1) 0 ((V.alloc (.cells #[.slice (some ⟨b2, o2, none⟩) k (k + 1), .slice (some ⟨b2, o2, none⟩) 0 0] 26)).drew) (take_en1 (HSL.out.below (HBA.out _)) k) (empty_en1 rfl) (.inr (by simp)) (.inr (by simp)) (by rw [HTK.out]; simp [go_sem]) (by simp [go_sem]) (by rw [HTK.out]; simp; omega)
            rw [hcat] at hcc1
            have HCc := hid hcc1
            clear hcat hcc1
            go_upto_region 9 with fail
            have f9 := fun W (hb : Below V.heap.size V W) => cell_on hb f0
            have HF9 := hid f9
            clear f9
            have HOK := hid (show okN xs gs most k = decide (costW (keepL (lessG gs k) 0 xs) ≤ most) from rfl)
            refine wp_region_held_drew (S := fun _ => True) (by kernel_rfl) (trivial) (fun hH0 => ?_)
            refine wpAnyH_take (i := 0) (oi := ⟨some 33, _, _, _, _, _⟩) (v := ?_) rfl (by kernel_rfl) (by kernel_rfl) (by kernel_rfl) (fun _ _ _ h => h) (Or.inl ⟨by kernel_rfl, ?_⟩) hH0 ?_
            rotate_left 1
            · (intro W hSw; (try dsimp only at hSw); go_simp; try with_reducible rfl)
            try simp only [Act.put, List.setIfInBounds_toArray, List.set_cons_zero, List.set_cons_succ]
            refine wpAnyH_take (i := 1) (oi := ⟨some 34, _, _, _, _, _⟩) (v := ?_) rfl (by kernel_rfl) (by kernel_rfl) (by kernel_rfl) (fun _ _ _ h => h) (Or.inl ⟨by kernel_rfl, ?_⟩) hH0 ?_
            rotate_left 1
            · (intro W hSw; (try dsimp only at hSw); go_simp; try with_reducible rfl)
            try simp only [Act.put, List.setIfInBounds_toArray, List.set_cons_zero, List.set_cons_succ]
            refine wpAnyH_take (i := 2) (oi := ⟨some 35, _, _, _, _, _⟩) (v := ?_) rfl (by kernel_rfl) (by kernel_rfl) (by kernel_rfl) (fun _ _ _ h => h) (Or.inl ⟨by kernel_rfl, ?_⟩) hH0 ?_
            rotate_left 1
            · (intro W hSw; (try dsimp only at hSw); go_simp; try with_reducible rfl)
            try simp only [Act.put, List.setIfInBounds_toArray, List.set_cons_zero, List.set_cons_succ]
            refine wpAnyH_take (i := 3) (oi := ⟨some 36, _, _, _, _, _⟩) (v := ?_) rfl (by kernel_rfl) (by kernel_rfl) (by kernel_rfl) (fun _ _ _ h => h) (Or.inl ⟨by kernel_rfl, ?_⟩) hH0 ?_
            rotate_left 1
            · (intro W hSw; (try dsimp only at hSw); go_simp; try with_reducible rfl)
            try simp only [Act.put, List.setIfInBounds_toArray, List.set_cons_zero, List.set_cons_succ]
            refine wpAnyH_take (i := 4) (oi := ⟨some 37, _, _, _, _, _⟩) (v := ?_) rfl (by kernel_rfl) (by kernel_rfl) (by kernel_rfl) (fun _ _ _ h => h) (Or.inl ⟨by kernel_rfl, ?_⟩) hH0 ?_
            rotate_left 1
            · (intro W hSw; (try dsimp only at hSw); go_simp; try with_reducible rfl)
            try simp only [Act.put, List.setIfInBounds_toArray, List.set_cons_zero, List.set_cons_succ]
            refine wpAnyH_take (i := 5) (oi := ⟨some 38, _, _, _, _, _⟩) (v := ?_) rfl (by kernel_rfl) (by kernel_rfl) (by kernel_rfl) (fun _ _ _ h => h) (Or.inl ⟨by kernel_rfl, ?_⟩) hH0 ?_
            rotate_left 1
            · (intro W hSw; (try dsimp only at hSw); go_simp; try with_reducible rfl)
            try simp only [Act.put, List.setIfInBounds_toArray, List.set_cons_zero, List.set_cons_succ]
            refine wpAnyH_take (i := 6) (oi := ⟨some 39, _, _, _, _, _⟩) (v := ?_) rfl (by kernel_rfl) (by kernel_rfl) (by kernel_rfl) (fun _ _ _ h => h) (Or.inl ⟨by kernel_rfl, ?_⟩) hH0 ?_
            rotate_left 1
            · (intro W hSw; (try dsimp only at hSw); go_simp; try with_reducible rfl)
            try simp only [Act.put, List.setIfInBounds_toArray, List.set_cons_zero, List.set_cons_succ]
            refine wpAnyH_take (i := 11) (oi := ⟨some 44, _, _, _, _, _⟩) (v := ?_) rfl (by kernel_rfl) (by kernel_rfl) (by kernel_rfl) (fun _ _ _ h => h) (Or.inl ⟨by kernel_rfl, ?_⟩) hH0 ?_
            rotate_left 1
            · (intro W hSw; (try dsimp only at hSw); go_simp; try with_reducible rfl)
            try simp only [Act.put, List.setIfInBounds_toArray, List.set_cons_zero, List.set_cons_succ]
            refine wpAnyH_ready (rs := [7]) (by kernel_rfl) (by simp) ?_
            refine AllReadyH.cons rfl (fun K hK => ?_) AllReadyH.nil
            go_simp
            refine hK.out _ _ (trivial) (fun hH1 => ?_)
            clear hK K
            try simp only [Act.put, List.setIfInBounds_toArray, List.set_cons_zero, List.set_cons_succ]
            refine wpAnyH_ready (rs := [8]) (by kernel_rfl) (by simp) ?_
            refine AllReadyH.cons rfl (fun K hK => ?_) AllReadyH.nil
            go_simp
            refine HCc.out.mono ?_
            rintro e w5 ⟨A5, c5, rfl, hb5, own5⟩
            have b5 := below_of (HBA.out _) (HBA.out _).size hb5
            have B5 := hid (below_of HB.out HB.out.size b5)
            have HW5 := hid (HWI.out w5 B5.out A5 c5 (lessG gs k) (lessG gs k).length (en1_row own5) rfl)
            have HV5 := hid b5
            clear own5 hb5 b5
            refine hK.out _ _ (trivial) (fun hH2 => ?_)
            clear hK K
            try simp only [Act.put, List.setIfInBounds_toArray, List.set_cons_zero, List.set_cons_succ]
            refine wpAnyH_ready (rs := [9]) (by kernel_rfl) (by simp) ?_
            refine AllReadyH.cons rfl (fun K hK => ?_) AllReadyH.nil
            go_simp
            refine HW5.out.mono ?_
            rintro e w6 ⟨A6, c6, rfl, hb6, own6⟩
            have B6 := hid (below_of B5.out B5.out.size hb6)
            have HV6 := hid (below_of HV5.out HV5.out.size hb6)
            have HWo := hid (worstOf_I wi hi A6 c6 _ w6 (HKB.out (lessG gs k)) (SlA.of_own Pc.enc_length own6))
            clear own6 hb6
            refine hK.out _ _ (trivial) (fun hH3 => ?_)
            clear hK K
            try simp only [Act.put, List.setIfInBounds_toArray, List.set_cons_zero, List.set_cons_succ]
            refine wpAnyH_ready (rs := [10]) (by kernel_rfl) (by simp) ?_
            refine AllReadyH.cons rfl (fun K hK => ?_) AllReadyH.nil
            go_simp
            refine HWo.out.mono ?_
            rintro e w7 ⟨rfl, hb7⟩
            have B7 := hid (below_of B6.out B6.out.size hb7)
            have HV7 := hid (below_of HV6.out HV6.out.size hb7)
            clear hb7
            refine hK.out _ _ (trivial) (fun hH4 => ?_)
            clear hK K
            try simp only [Act.put, List.setIfInBounds_toArray, List.set_cons_zero, List.set_cons_succ]
            refine wpAnyH_take (i := 12) (oi := ⟨some 45, _, _, _, _, _⟩) (v := ?_) rfl (by kernel_rfl) (by kernel_rfl) (by kernel_rfl) (fun _ _ _ h => h) (Or.inl ⟨by kernel_rfl, ?_⟩) hH4 ?_
            rotate_left 1
            · (intro W hSw; (try dsimp only at hSw); go_simp; try with_reducible rfl)
            try simp only [Act.put, List.setIfInBounds_toArray, List.set_cons_zero, List.set_cons_succ]
            refine wpAnyH_done (by kernel_rfl) ?_ _
            obtain ⟨L2, hL2e⟩ : ∃ L2, costW (keepL (lessG gs k) 0 xs) = L2 := ⟨_, rfl⟩
            rw [hL2e] at HOK ⊢
            clear hL2e
            by_cases hL2 : L2 ≤ most
            · have eL2 : decide (L2 ≤ most) = true := decide_eq_true hL2
              have HFA := hid (firstOk_at HF.out (HOK.out.trans eL2) gs.length hlt)
              rw [HFA.out] at G
              go_wp2_with fail
              refine bodyPost_ret (v := .tuple #[.int .i64 g, .int .i64 0]) (by simp [results, Tryz.results28, go_sem]) rfl ?_
              exact ⟨by rw [G.out]; show _ = Ending.returned (.tuple #[.int .i64 (gs.getD k 0), .int .i64 0]); rw [HGK.out], below_of HB0.out hz0 B7.out⟩
            · have eL2 : decide (L2 ≤ most) = false := decide_eq_false hL2
              have HFN := hid (firstOk_next HF.out (HOK.out.trans eL2))
              go_wp2_with fail
              exact ⟨⟨k + 1, by omega, by go_num, HFN.out, B7.out⟩, by simp [intOf]; omega⟩
          · have hcn : ¬ c2 = k + 1 := hcc
            have hcc1 := (concat_I V.heap.size (gs.take k) (gs.drop (k + 1)) (some ⟨b2, o2, none⟩) (some ⟨b2, o2 + (k + 1), none⟩) c2 (c2 - (k + 1)) ((V.alloc (.cells #[.slice (some ⟨b2, o2, none⟩) k c2, .slice (some ⟨b2, o2 + (k + 1), none⟩) (gs.length - (k + 1)) (c2 - (k + 1))] 26)).drew) (take_en1 (HSL.out.below (HBA.out _)) k) (drop_en1 (HSL.out.below (HBA.out _)) (k + 1)) (.inr (by simp)) (.inr (by simp)) (by rw [HTK.out]; simp [go_sem]) (by rw [HDL.out]; simp [go_sem]) (by rw [HTK.out, HDL.out]; omega))
            rw [show gs.take k ++ gs.drop (k + 1) = lessG gs k from rfl] at hcc1
            have HCc := hid hcc1
            clear hcc1
            go_upto_region 9 with fail
            have f9 := fun W (hb : Below V.heap.size V W) => cell_on hb f0
            have HF9 := hid f9
            clear f9
            have HOK := hid (show okN xs gs most k = decide (costW (keepL (lessG gs k) 0 xs) ≤ most) from rfl)
            refine wp_region_held_drew (S := fun _ => True) (by kernel_rfl) (trivial) (fun hH0 => ?_)
            refine wpAnyH_take (i := 0) (oi := ⟨some 33, _, _, _, _, _⟩) (v := ?_) rfl (by kernel_rfl) (by kernel_rfl) (by kernel_rfl) (fun _ _ _ h => h) (Or.inl ⟨by kernel_rfl, ?_⟩) hH0 ?_
            rotate_left 1
            · (intro W hSw; (try dsimp only at hSw); go_simp; try with_reducible rfl)
            try simp only [Act.put, List.setIfInBounds_toArray, List.set_cons_zero, List.set_cons_succ]
            refine wpAnyH_take (i := 1) (oi := ⟨some 34, _, _, _, _, _⟩) (v := ?_) rfl (by kernel_rfl) (by kernel_rfl) (by kernel_rfl) (fun _ _ _ h => h) (Or.inl ⟨by kernel_rfl, ?_⟩) hH0 ?_
            rotate_left 1
            · (intro W hSw; (try dsimp only at hSw); go_simp; try with_reducible rfl)
            try simp only [Act.put, List.setIfInBounds_toArray, List.set_cons_zero, List.set_cons_succ]
            refine wpAnyH_take (i := 2) (oi := ⟨some 35, _, _, _, _, _⟩) (v := ?_) rfl (by kernel_rfl) (by kernel_rfl) (by kernel_rfl) (fun _ _ _ h => h) (Or.inl ⟨by kernel_rfl, ?_⟩) hH0 ?_
            rotate_left 1
            · (intro W hSw; (try dsimp only at hSw); go_simp; try with_reducible rfl)
            try simp only [Act.put, List.setIfInBounds_toArray, List.set_cons_zero, List.set_cons_succ]
            refine wpAnyH_take (i := 3) (oi := ⟨some 36, _, _, _, _, _⟩) (v := ?_) rfl (by kernel_rfl) (by kernel_rfl) (by kernel_rfl) (fun _ _ _ h => h) (Or.inl ⟨by kernel_rfl, ?_⟩) hH0 ?_
            rotate_left 1
            · (intro W hSw; (try dsimp only at hSw); go_simp; try with_reducible rfl)
            try simp only [Act.put, List.setIfInBounds_toArray, List.set_cons_zero, List.set_cons_succ]
            refine wpAnyH_take (i := 4) (oi := ⟨some 37, _, _, _, _, _⟩) (v := ?_) rfl (by kernel_rfl) (by kernel_rfl) (by kernel_rfl) (fun _ _ _ h => h) (Or.inl ⟨by kernel_rfl, ?_⟩) hH0 ?_
            rotate_left 1
            · (intro W hSw; (try dsimp only at hSw); go_simp; try with_reducible rfl)
            try simp only [Act.put, List.setIfInBounds_toArray, List.set_cons_zero, List.set_cons_succ]
            refine wpAnyH_take (i := 5) (oi := ⟨some 38, _, _, _, _, _⟩) (v := ?_) rfl (by kernel_rfl) (by kernel_rfl) (by kernel_rfl) (fun _ _ _ h => h) (Or.inl ⟨by kernel_rfl, ?_⟩) hH0 ?_
            rotate_left 1
            · (intro W hSw; (try dsimp only at hSw); go_simp; try with_reducible rfl)
            try simp only [Act.put, List.setIfInBounds_toArray, List.set_cons_zero, List.set_cons_succ]
            refine wpAnyH_take (i := 6) (oi := ⟨some 39, _, _, _, _, _⟩) (v := ?_) rfl (by kernel_rfl) (by kernel_rfl) (by kernel_rfl) (fun _ _ _ h => h) (Or.inl ⟨by kernel_rfl, ?_⟩) hH0 ?_
            rotate_left 1
            · (intro W hSw; (try dsimp only at hSw); go_simp; try with_reducible rfl)
            try simp only [Act.put, List.setIfInBounds_toArray, List.set_cons_zero, List.set_cons_succ]
            refine wpAnyH_take (i := 11) (oi := ⟨some 44, _, _, _, _, _⟩) (v := ?_) rfl (by kernel_rfl) (by kernel_rfl) (by kernel_rfl) (fun _ _ _ h => h) (Or.inl ⟨by kernel_rfl, ?_⟩) hH0 ?_
            rotate_left 1
            · (intro W hSw; (try dsimp only at hSw); go_simp; try with_reducible rfl)
            try simp only [Act.put, List.setIfInBounds_toArray, List.set_cons_zero, List.set_cons_succ]
            refine wpAnyH_ready (rs := [7]) (by kernel_rfl) (by simp) ?_
            refine AllReadyH.cons rfl (fun K hK => ?_) AllReadyH.nil
            go_simp
            refine hK.out _ _ (trivial) (fun hH1 => ?_)
            clear hK K
            try simp only [Act.put, List.setIfInBounds_toArray, List.set_cons_zero, List.set_cons_succ]
            refine wpAnyH_ready (rs := [8]) (by kernel_rfl) (by simp) ?_
            refine AllReadyH.cons rfl (fun K hK => ?_) AllReadyH.nil
            go_simp
            refine HCc.out.mono ?_
            rintro e w5 ⟨A5, c5, rfl, hb5, own5⟩
            have b5 := below_of (HBA.out _) (HBA.out _).size hb5
            have B5 := hid (below_of HB.out HB.out.size b5)
            have HW5 := hid (HWI.out w5 B5.out A5 c5 (lessG gs k) (lessG gs k).length (en1_row own5) rfl)
            have HV5 := hid b5
            clear own5 hb5 b5
            refine hK.out _ _ (trivial) (fun hH2 => ?_)
            clear hK K
            try simp only [Act.put, List.setIfInBounds_toArray, List.set_cons_zero, List.set_cons_succ]
            refine wpAnyH_ready (rs := [9]) (by kernel_rfl) (by simp) ?_
            refine AllReadyH.cons rfl (fun K hK => ?_) AllReadyH.nil
            go_simp
            refine HW5.out.mono ?_
            rintro e w6 ⟨A6, c6, rfl, hb6, own6⟩
            have B6 := hid (below_of B5.out B5.out.size hb6)
            have HV6 := hid (below_of HV5.out HV5.out.size hb6)
            have HWo := hid (worstOf_I wi hi A6 c6 _ w6 (HKB.out (lessG gs k)) (SlA.of_own Pc.enc_length own6))
            clear own6 hb6
            refine hK.out _ _ (trivial) (fun hH3 => ?_)
            clear hK K
            try simp only [Act.put, List.setIfInBounds_toArray, List.set_cons_zero, List.set_cons_succ]
            refine wpAnyH_ready (rs := [10]) (by kernel_rfl) (by simp) ?_
            refine AllReadyH.cons rfl (fun K hK => ?_) AllReadyH.nil
            go_simp
            refine HWo.out.mono ?_
            rintro e w7 ⟨rfl, hb7⟩
            have B7 := hid (below_of B6.out B6.out.size hb7)
            have HV7 := hid (below_of HV6.out HV6.out.size hb7)
            clear hb7
            refine hK.out _ _ (trivial) (fun hH4 => ?_)
            clear hK K
            try simp only [Act.put, List.setIfInBounds_toArray, List.set_cons_zero, List.set_cons_succ]
            refine wpAnyH_take (i := 12) (oi := ⟨some 45, _, _, _, _, _⟩) (v := ?_) rfl (by kernel_rfl) (by kernel_rfl) (by kernel_rfl) (fun _ _ _ h => h) (Or.inl ⟨by kernel_rfl, ?_⟩) hH4 ?_
            rotate_left 1
            · (intro W hSw; (try dsimp only at hSw); go_simp; try with_reducible rfl)
            try simp only [Act.put, List.setIfInBounds_toArray, List.set_cons_zero, List.set_cons_succ]
            refine wpAnyH_done (by kernel_rfl) ?_ _
            obtain ⟨L2, hL2e⟩ : ∃ L2, costW (keepL (lessG gs k) 0 xs) = L2 := ⟨_, rfl⟩
            rw [hL2e] at HOK ⊢
            clear hL2e
            by_cases hL2 : L2 ≤ most
            · have eL2 : decide (L2 ≤ most) = true := decide_eq_true hL2
              have HFA := hid (firstOk_at HF.out (HOK.out.trans eL2) gs.length hlt)
              rw [HFA.out] at G
              go_wp2_with fail
              refine bodyPost_ret (v := .tuple #[.int .i64 g, .int .i64 0]) (by simp [results, Tryz.results28, go_sem]) rfl ?_
              exact ⟨by rw [G.out]; show _ = Ending.returned (.tuple #[.int .i64 (gs.getD k 0), .int .i64 0]); rw [HGK.out], below_of HB0.out hz0 B7.out⟩
            · have eL2 : decide (L2 ≤ most) = false := decide_eq_false hL2
              have HFN := hid (firstOk_next HF.out (HOK.out.trans eL2))
              go_wp2_with fail
              exact ⟨⟨k + 1, by omega, by go_num, HFN.out, B7.out⟩, by simp [intOf]; omega⟩
        · obtain rfl : k = gs.length := by omega
          have hd : decide ((gs.length : Int) < (gs.length : Int)) = false := by rw [decide_eq_false_iff_not]; omega
          rw [HF.out] at G
          clear hbl
          go_wp2_with fail
          refine bodyPost_ret (v := .tuple #[.int .i64 0, .int .i64 6]) (by simp [results, Tryz.results28, go_sem]) rfl ?_
          exact ⟨by rw [G.out]; rfl, below_of HB0.out hz0 HB.out⟩
    · rw [if_neg hLm] at G
      rw [decide_eq_false hLm] at HCG
      go_enter Tryz.func28, Tryz.ntmps28
      go_upto_region 1 with fail
      rw [← hW0]
      clear hW0
      go_wp2_with fail
      refine HCG.out.mono ?_
      rintro e w1 ⟨rfl, hb1⟩
      have B2 := hid (below_of HB0.out HB0.out.size hb1)
      clear hb1
      go_wp2_with fail
      refine bodyPost_ret (v := .tuple #[.int .i64 0, .int .i64 4]) (by simp [results, Tryz.results28, go_sem]) rfl ?_
      exact ⟨by rw [G.out], B2.out⟩
  · have G := hid (show NeedlessGapG wi hi xs gs most = (0, v) by unfold NeedlessGapG; rw [hv, if_neg hv0])
    have GC : CheckGapsG wi hi xs gs most = (false, v) := by unfold CheckGapsG; rw [hv, if_neg hv0]
    rw [GC] at HCG
    have hne : (v != 0) = true := by simpa using hv0
    clear B0 hbd h h2 hv hv0 GC
    go_enter Tryz.func28, Tryz.ntmps28
    go_upto_region 1 with fail
    rw [← hW0]
    clear hW0
    go_wp2_with fail
    refine HCG.out.mono ?_
    rintro e w1 ⟨rfl, hb1⟩
    have B1 := hid (below_of HB0.out HB0.out.size hb1)
    clear hb1
    go_wp2_with fail
    refine bodyPost_ret (v := .tuple #[.int .i64 0, .int .i64 v]) (by simp [results, Tryz.results28, go_sem]) rfl ?_
    exact ⟨by rw [G.out], B1.out⟩
end Go.Proofs.YtmjlnhhgpdcobaaGreat
