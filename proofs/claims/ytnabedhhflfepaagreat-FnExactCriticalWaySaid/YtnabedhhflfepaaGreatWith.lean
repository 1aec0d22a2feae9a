/-
  The pieces of whose windows something is so, the program's.
  Conditions: the fields are in their kinds' ranges.
-/
import Derived.Test.YtnabedhhflfepaaGreatWinsOf
import Derived.Test.YtnabedhhflfepaaGreatOb
import Derived.Shelf.Abstract
namespace Go.Proofs.YtnabedhhflfepaaGreat
open Go.RowKit
set_option linter.unusedSimpArgs false
set_option linter.unusedVariables false

def idxP (P : Wn → Bool) (R : List Wn) : Nat → List Int
  | 0 => []
  | k + 1 => match R[k]? with
    | some p => if P p = true then idxP P R k ++ [(k : Int)] else idxP P R k
    | none => idxP P R k
theorem idxP_le (P : Wn → Bool) (R : List Wn) : ∀ k, (idxP P R k).length ≤ k
  | 0 => Nat.le_refl _
  | k + 1 => by
    have := idxP_le P R k
    unfold idxP
    split
    · split
      · simp; omega
      · omega
    · omega
theorem idxP_yes {P : Wn → Bool} {R : List Wn} {k : Nat} {p : Wn} (h : R[k]? = some p) (hp : P p = true) : idxP P R (k + 1) = idxP P R k ++ [(k : Int)] := by
  rw [idxP, h]
  simp [hp]
theorem idxP_no {P : Wn → Bool} {R : List Wn} {k : Nat} {p : Wn} (h : R[k]? = some p) (hp : P p = false) : idxP P R (k + 1) = idxP P R k := by
  rw [idxP, h]
  simp [hp]
def withG (P : Wn → Bool) (wi hi : Int) (xs : List Pc) (ps : List Pu) (ss : List Sp) : List Int × Int := (idxP P (WindowsOfG wi hi xs ps ss).1 (WindowsOfG wi hi xs ps ss).1.length, (WindowsOfG wi hi xs ps ss).2.2)
theorem with_len (P : Wn → Bool) (wi hi : Int) (xs : List Pc) (ps : List Pu) (ss : List Sp) (h : xs.length ≤ 1048576) : (withG P wi hi xs ps ss).1.length ≤ 1048576 :=
  Nat.le_trans (idxP_le _ _ _) (WindowsOf_len wi hi xs ps ss h)
theorem winL_si (M : Nat → Nat → Bool) (E L : Nat → Nat) : ∀ n, ∀ p ∈ winL M E L n, 0 ≤ p.si ∧ p.si ≤ 15
  | 0, p, h => by cases h
  | n + 1, p, h => by
    rw [winL, List.mem_append] at h
    rcases h with h | h
    · exact winL_si M E L n p h
    · rw [List.mem_singleton] at h
      subst h
      exact sBits_in _
theorem wins_si (wi hi : Int) (xs : List Pc) (ps : List Pu) (ss : List Sp) : ∀ p ∈ (WindowsOfG wi hi xs ps ss).1, 0 ≤ p.si ∧ p.si ≤ 15 := by
  unfold WindowsOfG
  split
  · exact winL_si _ _ _ _
  · intro p hp; cases hp
theorem wins_cd (wi hi : Int) (xs : List Pc) (ps : List Pu) (ss : List Sp) : (WindowsOfG wi hi xs ps ss).2.2 = 0 ∨ (((WindowsOfG wi hi xs ps ss).2.2 = 1 ∨ (WindowsOfG wi hi xs ps ss).2.2 = 3) ∧ (WindowsOfG wi hi xs ps ss).1 = []) := by
  unfold WindowsOfG
  rcases ask_lt (wi := wi) (hi := hi) (xs := xs) (ps := ps) (ss := ss) with h | h | h
  · rw [if_pos h]; exact .inl rfl
  · rw [if_neg (by rw [h]; decide)]; exact .inr ⟨.inl h, rfl⟩
  · rw [if_neg (by rw [h]; decide)]; exact .inr ⟨.inr h, rfl⟩
set_option maxHeartbeats 2000000 in
theorem withWindow_I (F : Nat) (he : ∀ args W, (callFunc F args).run Tryz.prog W = .ok (.enter F args) W) (cs : Array Value) (P : Wn → Bool) (HF : ∀ p : Wn, (0 ≤ p.si ∧ p.si ≤ 15) → ∀ W, Calls Tryz.prog F (#[.agg p.enc.toArray] ++ cs) W fun e w' => e = .returned (.bool (P p)) ∧ Below W.heap.size W w')
    (w : World) (wi hi : Int) (wl : -128 ≤ wi) (wu : wi ≤ 127) (hl : -128 ≤ hi) (hu : hi ≤ 127) (a : Option Addr) (c : Nat) (xs : List Pc) (h : SlA Pc.enc 5 w a xs) (ha : a = none → c = 0) (ok : ∀ p ∈ xs, p.Ok) (hxl : xs.length ≤ 1048576) (al : Option Addr) (cl : Nat) (ps : List Pu) (hp : SlA Pu.enc 4 w al ps) (hal : al = none → cl = 0) (okp : ∀ p ∈ ps, p.Ok) (hpl : ps.length ≤ 1048576) (sa : Option Addr) (sc : Nat) (ss : List Sp) (hs : SlA Sp.enc 2 w sa ss) (hsa : sa = none → sc = 0) (oks : ∀ p ∈ ss, p.Ok) (hsl : ss.length ≤ 1048576) :
    Calls Tryz.prog 60 #[.agg #[.int .i8 wi, .int .i8 hi, .slice a xs.length c], .slice al ps.length cl, .slice sa ss.length sc, .func (.func F) #[] cs] w (ResS en1 1 2 w (withG P wi hi xs ps ss).1 (withG P wi hi xs ps ss).2) := by
  obtain ⟨W0, hW0⟩ : ∃ W, W = w.alloc (.cells #[.int .i8 wi, .int .i8 hi, .slice a xs.length c] 35) := ⟨_, rfl⟩
  have B0 : Below w.heap.size w W0 := by rw [hW0]; exact (Below.refl _ _).alloc (Nat.le_refl _) _
  have H1 := WindowsOf_I W0 wi hi wl wu hl hu a c xs (h.below B0) ha ok hxl al cl ps (hp.below B0) hal okp hpl sa sc ss (hs.below B0) hsa oks hsl
  have HC := wins_cd wi hi xs ps ss
  have HSI := hid (wins_si wi hi xs ps ss)
  have hRl := WindowsOf_len wi hi xs ps ss hxl
  have HG := hid (show withG P wi hi xs ps ss = (idxP P (WindowsOfG wi hi xs ps ss).1 (WindowsOfG wi hi xs ps ss).1.length, (WindowsOfG wi hi xs ps ss).2.2) from rfl)
  generalize (WindowsOfG wi hi xs ps ss).1 = R at *
  generalize (WindowsOfG wi hi xs ps ss).2.1 = sd at *
  generalize (WindowsOfG wi hi xs ps ss).2.2 = cd at *
  have H1 := hid H1
  have HB0 := hid B0
  have HF := hid HF
  clear h hp hs B0
  rcases HC with rfl | ⟨hcd, rfl⟩
  · go_enter Tryz.func60, Tryz.ntmps60
    go_wp2_with fail
    rw [← hW0]
    clear hW0
    refine H1.out.mono ?_
    rintro e w1 ⟨A, c1, rfl, hb1, own⟩
    have HR := hid (SlA.of_own (enc := Wn.enc) (n := 4) (fun _ => rfl) own)
    have B1 := below_of HB0.out HB0.out.size hb1
    have z1 := B1.size
    have HB1 := hid B1
    clear own hb1 B1
    go_wp2_with fail
    go_loopw [13, 30] (fun o i wr => ∃ (k m : Nat) (B : Option Addr) (c2 : Nat), k ≤ R.length ∧ i = .int .i64 k ∧ o = .slice B m c2 ∧ m = (idxP P R k).length ∧ wr.ownsRow w1.heap.size 2 1 (.slice B m c2) m ((idxP P R k).flatMap en1) ∧ Below w1.heap.size w1 wr) (fun _ i _ => R.length - (intOf i).toNat)
    case atStart => exact ⟨0, 0, _, _, Nat.zero_le _, rfl, rfl, rfl, by simpa [idxP] using World.ownsRow_lit w1 #[] 0 (Nat.le_refl _) (by simp [maxLen]) (by simp), (Below.refl _ _).alloc (Nat.le_refl _) _⟩
    case round =>
      obtain ⟨k, m, B, c2, hk, rfl, rfl, hm, own, hbl⟩ := hrel
      obtain ⟨V, hV⟩ : ∃ V, V = wr := ⟨_, rfl⟩
      subst hV
      have Ho := hid own
      have HBL := hid hbl
      have hz := hbl.size
      have hmk : m ≤ k := by rw [hm]; exact idxP_le P R k
      have HM := hid hm
      by_cases hlt : k < R.length
      · have hd : decide ((k : Int) < (R.length : Int)) = true := by rw [decide_eq_true_iff]; omega
        have hki : (k : Int) < (R.length : Int) := by omega
        obtain ⟨b1, o1, rfl, hb1, hc1⟩ := (HR.out.below hbl).cells (by omega)
        have e1 : R[k]? = some R[k] := List.getElem?_eq_getElem hlt
        have Hs := hid (HF.out R[k] (HSI.out _ (List.getElem_mem hlt)))
        have Hp := hid e1
        clear e1
        generalize R[k] = p at *
        obtain ⟨r, hr⟩ : ∃ r, P p = r := ⟨_, rfl⟩
        rw [hr] at Hs
        have Hr := hid hr
        have f0 : V.cell? ⟨b1, o1 + k * 4, none⟩ = some (.int .u8 p.si) := hc1 k _ Hp.out 0 _ rfl
        have f1 : V.cell? ⟨b1, o1 + k * 4 + 1, none⟩ = some (.bool p.su) := hc1 k _ Hp.out 1 _ rfl
        have f2 : V.cell? ⟨b1, o1 + k * 4 + 2, none⟩ = some (.int .i64 p.ea) := hc1 k _ Hp.out 2 _ rfl
        have f3 : V.cell? ⟨b1, o1 + k * 4 + 3, none⟩ = some (.int .i64 p.la) := hc1 k _ Hp.out 3 _ rfl
        have BX : ∀ o, Below V.heap.size V (V.alloc o) := fun o => (Below.refl _ _).alloc (Nat.le_refl _) o
        have HBX := hid BX
        clear hr hc1 own hbl hm BX
        cases r
        · go_wp2_with fail
          refine (Hs.out _).mono ?_
          rintro e w2 ⟨rfl, hb9⟩
          have Bv := below_of (HBX.out _) (by simp) hb9
          have B2 := hid (below_of HBL.out hz Bv)
          have O2 := hid (own_step Ho.out Bv)
          clear Bv hb9
          go_wp2_with fail
          exact ⟨⟨k + 1, m, B, c2, by omega, by go_num, rfl, by rw [idxP_no Hp.out Hr.out, HM.out], by rw [idxP_no Hp.out Hr.out]; exact O2.out, B2.out⟩, by simp [intOf]; omega⟩
        · go_wp2_with fail
          refine (Hs.out _).mono ?_
          rintro e w2 ⟨rfl, hb9⟩
          have Bv := below_of (HBX.out _) (by simp) hb9
          have B2 := hid (below_of HBL.out hz Bv)
          have O2 := hid (own_step Ho.out Bv)
          have hz2 := B2.out.size
          clear Bv hb9
          go_wp2_with (at_builtin; refine app_one (w := w2) 48 2 (.int .i64 0) 1 8 Tryz.underlying48 (by kernel_rfl) rfl (by decide) w1.heap.size _ m _ O2.out ?c1 (by decide) hz2 [.int .i64 k] _ _ rfl rfl rfl _ rfl ?c3 rfl (by intro u hu; simp at hu; rcases hu with rfl; rfl) ?_)
          case c1 => omega
          case c3 => rfl
          intro A2 c3 w3 own3 hb3 hg3 hat3
          have HO3 := hid own3
          have HB3 := hid (B2.out.trans hb3)
          clear own3 hb3 hg3 hat3
          go_wp2_with fail
          refine ⟨⟨k + 1, m + 1, A2, c3, by omega, by go_num, rfl, by rw [idxP_yes Hp.out Hr.out, HM.out]; simp, ?_, HB3.out⟩, by simp [intOf]; omega⟩
          rw [idxP_yes Hp.out Hr.out, List.flatMap_append]
          simpa [en1] using HO3.out
      · obtain rfl : k = R.length := by omega
        have hd : decide ((R.length : Int) < (R.length : Int)) = false := by rw [decide_eq_false_iff_not]; omega
        clear own hbl hm
        go_wp2_with fail
        refine bodyPost_ret (v := .tuple #[.slice B m c2, .int .i64 0]) (by simp [results, Tryz.results60, go_sem]) rfl ?_
        rw [HG.out]
        refine ⟨B, c2, by rw [HM.out], HB1.out.trans (HBL.out.mono z1), ?_⟩
        rw [← HM.out]
        exact own_low Ho.out z1
  · rcases hcd with rfl | rfl
    all_goals (
      go_enter Tryz.func60, Tryz.ntmps60
      go_wp2_with fail
      rw [← hW0]
      clear hW0
      refine H1.out.mono ?_
      rintro e w1 ⟨A, c1, rfl, hb1, own⟩
      have B1 := below_of HB0.out HB0.out.size hb1
      clear own
      go_wp2_with fail
      go_ret2
      rw [HG.out]
      exact ResS.nil B1)
end Go.Proofs.YtnabedhhflfepaaGreat
