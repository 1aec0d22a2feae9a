/-
  CanFall, MustFall, both the program's and the reference's.
  Conditions: the fields are in their kinds' ranges.
-/
import Derived.Test.YtpnkaooodbfcpaaGreatWith
namespace Go.Proofs.YtpnkaooodbfcpaaGreat
open Go.RowKit
set_option linter.unusedSimpArgs false
set_option linter.unusedVariables false

def CanFallP (p : Wn) : Bool := p.si != 0
def CanFallG (wi hi : Int) (xs : List Pc) (ps : List Pu) (ss : List Sp) : List Int × Int := withG CanFallP wi hi xs ps ss
theorem CanFall_len (wi hi : Int) (xs : List Pc) (ps : List Pu) (ss : List Sp) (h : xs.length ≤ 1048576) : (CanFallG wi hi xs ps ss).1.length ≤ 1048576 := with_len _ _ _ _ _ _ h
theorem CanFall1_I (p : Wn) (w : World) : Calls Tryz.prog 71 #[.agg p.enc.toArray] w fun e w' => e = .returned (.bool (CanFallP p)) ∧ Below w.heap.size w w' := by
  show Calls Tryz.prog 71 #[.agg #[.int .u8 p.si, .bool p.su, .int .i64 p.ea, .int .i64 p.la]] w _
  have B0 : ∀ o, Below w.heap.size w (w.alloc o) := fun o => (Below.refl _ _).alloc (Nat.le_refl _) o
  go_enter Tryz.func71, Tryz.ntmps71
  go_wp2_with fail
  go_ret
  exact ⟨ret_bool (by simp [CanFallP]), B0 _⟩
theorem CanFall_I (w : World) (wi hi : Int) (wl : -128 ≤ wi) (wu : wi ≤ 127) (hl : -128 ≤ hi) (hu : hi ≤ 127) (a : Option Addr) (c : Nat) (xs : List Pc) (h : SlA Pc.enc 5 w a xs) (ha : a = none → c = 0) (ok : ∀ p ∈ xs, p.Ok) (hxl : xs.length ≤ 1048576) (al : Option Addr) (cl : Nat) (ps : List Pu) (hp : SlA Pu.enc 4 w al ps) (hal : al = none → cl = 0) (okp : ∀ p ∈ ps, p.Ok) (hpl : ps.length ≤ 1048576) (sa : Option Addr) (sc : Nat) (ss : List Sp) (hs : SlA Sp.enc 2 w sa ss) (hsa : sa = none → sc = 0) (oks : ∀ p ∈ ss, p.Ok) (hsl : ss.length ≤ 1048576) :
    Calls Tryz.prog 37 #[.agg #[.int .i8 wi, .int .i8 hi, .slice a xs.length c], .slice al ps.length cl, .slice sa ss.length sc] w (ResS en1 1 2 w (CanFallG wi hi xs ps ss).1 (CanFallG wi hi xs ps ss).2) := by
  obtain ⟨W0, hW0⟩ : ∃ W, W = w.alloc (.cells #[.int .i8 wi, .int .i8 hi, .slice a xs.length c] 36) := ⟨_, rfl⟩
  have B0 : Below w.heap.size w W0 := by rw [hW0]; exact (Below.refl _ _).alloc (Nat.le_refl _) _
  have H1 := hid (withWindow_I 71 (enters_of Tryz.func71 (by kernel_rfl) rfl) #[] CanFallP (fun p _ W => CanFall1_I p W) W0 wi hi wl wu hl hu a c xs (h.below B0) ha ok hxl al cl ps (hp.below B0) hal okp hpl sa sc ss (hs.below B0) hsa oks hsl)
  have HG := hid (show CanFallG wi hi xs ps ss = withG CanFallP wi hi xs ps ss from rfl)
  generalize withG CanFallP wi hi xs ps ss = RR at *
  obtain ⟨R, cd⟩ := RR
  have HB0 := hid B0
  clear h hp hs B0
  go_enter Tryz.func37, Tryz.ntmps37
  go_wp2_with fail
  rw [← hW0]
  clear hW0
  refine H1.out.mono ?_
  rintro e w1 ⟨A, c1, rfl, hb1, own⟩
  have HO := hid own
  have B1 := below_of HB0.out HB0.out.size hb1
  have z0 := HB0.out.size
  clear own
  go_wp2_with fail
  refine bodyPost_ret (v := .tuple #[.slice A R.length c1, .int .i64 cd]) (by simp [results, Tryz.results37, go_sem]) rfl ?_
  rw [HG.out]
  exact ⟨A, c1, rfl, B1, own_low HO.out z0⟩
set_option maxHeartbeats 2000000 in
theorem CanFall_S (w : World) (wi hi : Int) (wl : -128 ≤ wi) (wu : wi ≤ 127) (hl : -128 ≤ hi) (hu : hi ≤ 127) (a : Option Addr) (c : Nat) (xs : List Pc) (h : SlA Pc.enc 5 w a xs) (ha : a = none → c = 0) (ok : ∀ p ∈ xs, p.Ok) (hxl : xs.length ≤ 1048576) (al : Option Addr) (cl : Nat) (ps : List Pu) (hp : SlA Pu.enc 4 w al ps) (hal : al = none → cl = 0) (okp : ∀ p ∈ ps, p.Ok) (hpl : ps.length ≤ 1048576) (sa : Option Addr) (sc : Nat) (ss : List Sp) (hs : SlA Sp.enc 2 w sa ss) (hsa : sa = none → sc = 0) (oks : ∀ p ∈ ss, p.Ok) (hsl : ss.length ≤ 1048576) :
    Calls Tryz.prog 36 #[.agg #[.int .i8 wi, .int .i8 hi, .slice a xs.length c], .slice al ps.length cl, .slice sa ss.length sc] w (ResS en1 1 2 w (CanFallG wi hi xs ps ss).1 (CanFallG wi hi xs ps ss).2) := by
  obtain ⟨W0, hW0⟩ : ∃ W, W = w.alloc (.cells #[.int .i8 wi, .int .i8 hi, .slice a xs.length c] 36) := ⟨_, rfl⟩
  have B0 : Below w.heap.size w W0 := by rw [hW0]; exact (Below.refl _ _).alloc (Nat.le_refl _) _
  have H1 := WindowsOf_S W0 wi hi wl wu hl hu a c xs (h.below B0) ha ok hxl al cl ps (hp.below B0) hal okp hpl sa sc ss (hs.below B0) hsa oks hsl
  have hRl := WindowsOf_len wi hi xs ps ss hxl
  have HG := hid (show CanFallG wi hi xs ps ss = (idxP CanFallP (WindowsOfG wi hi xs ps ss).1 (WindowsOfG wi hi xs ps ss).1.length, (WindowsOfG wi hi xs ps ss).2.2) from rfl)
  generalize (WindowsOfG wi hi xs ps ss).1 = R at *
  generalize (WindowsOfG wi hi xs ps ss).2.1 = sd at *
  generalize (WindowsOfG wi hi xs ps ss).2.2 = cd at *
  have H1 := hid H1
  have HB0 := hid B0
  clear h hp hs B0
  go_enter Tryz.func36, Tryz.ntmps36
  go_wp2_with fail
  rw [← hW0]
  clear hW0
  refine H1.out.mono ?_
  rintro e w1 ⟨A, c1, rfl, hb1, own⟩
  have HR := hid (SlA.of_own (enc := Wn.enc) (n := 4) (fun _ => rfl) own)
  have B1 := below_of HB0.out HB0.out.size hb1
  have z1 := B1.size
  have HB1 := hid B1
  clear own hb1 B1
  go_wp2_with fail
  go_loopw [11, 12] (fun o i wr => ∃ (k m : Nat) (B : Option Addr) (c2 : Nat), k ≤ R.length ∧ i = .int .i64 k ∧ o = .slice B m c2 ∧ m = (idxP CanFallP R k).length ∧ wr.ownsRow w1.heap.size 2 1 (.slice B m c2) m ((idxP CanFallP R k).flatMap en1) ∧ Below w1.heap.size w1 wr) (fun _ i _ => R.length - (intOf i).toNat)
  case atStart => exact ⟨0, 0, _, _, Nat.zero_le _, rfl, rfl, rfl, by simpa [idxP] using World.ownsRow_lit w1 #[] 0 (Nat.le_refl _) (by simp [maxLen]) (by simp), (Below.refl _ _).alloc (Nat.le_refl _) _⟩
  case round =>
    obtain ⟨k, m, B, c2, hk, rfl, rfl, hm, own, hbl⟩ := hrel
    have Ho := hid own
    have HBL := hid hbl
    have hz := hbl.size
    have hmk : m ≤ k := by rw [hm]; exact idxP_le CanFallP R k
    have HM := hid hm
    by_cases hlt : k < R.length
    · have hd : decide ((k : Int) < (R.length : Int)) = true := by rw [decide_eq_true_iff]; omega
      have hki : (k : Int) < (R.length : Int) := by omega
      obtain ⟨b1, o1, rfl, hb1, hc1⟩ := (HR.out.below hbl).cells (by omega)
      have e1 : R[k]? = some R[k] := List.getElem?_eq_getElem hlt
      have Hp := hid e1
      clear e1
      generalize R[k] = p at *
      obtain ⟨r, hr⟩ : ∃ r, CanFallP p = r := ⟨_, rfl⟩
      have Hr := hid hr
      have f0 : wr.cell? ⟨b1, o1 + k * 4, none⟩ = some (.int .u8 p.si) := hc1 k _ Hp.out 0 _ rfl
      have f1 : wr.cell? ⟨b1, o1 + k * 4 + 1, none⟩ = some (.bool p.su) := hc1 k _ Hp.out 1 _ rfl
      have r1 : (p.si != 0) = r := hr
      have r2 : (!p.si == 0) = r := hr
      have r3 : decide (p.si ≠ 0) = r := by rw [← hr]; unfold CanFallP; by_cases h0 : p.si = 0 <;> simp [h0]
      clear hr hc1 own hbl hm
      cases r
      · go_wp2_with fail
        exact ⟨⟨k + 1, m, B, c2, by omega, by go_num, rfl, by rw [idxP_no Hp.out Hr.out, HM.out], by rw [idxP_no Hp.out Hr.out]; exact Ho.out, HBL.out⟩, by simp [intOf]; omega⟩
      · go_wp2_with (at_builtin; refine app_one (w := wr) 56 2 (.int .i64 0) 1 8 Tryz.underlying56 (by kernel_rfl) rfl (by decide) w1.heap.size _ m _ Ho.out ?c1 (by decide) hz [.int .i64 k] _ _ rfl rfl rfl _ rfl ?c3 rfl (by intro u hu; simp at hu; rcases hu with rfl; rfl) ?_)
        case c1 => omega
        case c3 => rfl
        intro A2 c3 w3 own3 hb3 hg3 hat3
        have HO3 := hid own3
        have HB3 := hid (HBL.out.trans hb3)
        clear own3 hb3 hg3 hat3
        go_wp2_with fail
        refine ⟨⟨k + 1, m + 1, A2, c3, by omega, by go_num, rfl, by rw [idxP_yes Hp.out Hr.out, HM.out]; simp, ?_, HB3.out⟩, by simp [intOf]; omega⟩
        rw [idxP_yes Hp.out Hr.out, List.flatMap_append]
        simpa [en1] using HO3.out
    · obtain rfl : k = R.length := by omega
      have hd : decide ((R.length : Int) < (R.length : Int)) = false := by rw [decide_eq_false_iff_not]; omega
      clear own hbl hm
      go_wp2_with fail
      refine bodyPost_ret (v := .tuple #[.slice B m c2, .int .i64 cd]) (by simp [results, Tryz.results36, go_sem]) rfl ?_
      rw [HG.out]
      refine ⟨B, c2, by rw [HM.out], HB1.out.trans (HBL.out.mono z1), ?_⟩
      rw [← HM.out]
      exact own_low Ho.out z1
def MustFallP (p : Wn) : Bool := p.su
def MustFallG (wi hi : Int) (xs : List Pc) (ps : List Pu) (ss : List Sp) : List Int × Int := withG MustFallP wi hi xs ps ss
theorem MustFall_len (wi hi : Int) (xs : List Pc) (ps : List Pu) (ss : List Sp) (h : xs.length ≤ 1048576) : (MustFallG wi hi xs ps ss).1.length ≤ 1048576 := with_len _ _ _ _ _ _ h
theorem MustFall1_I (p : Wn) (w : World) : Calls Tryz.prog 72 #[.agg p.enc.toArray] w fun e w' => e = .returned (.bool (MustFallP p)) ∧ Below w.heap.size w w' := by
  show Calls Tryz.prog 72 #[.agg #[.int .u8 p.si, .bool p.su, .int .i64 p.ea, .int .i64 p.la]] w _
  have B0 : ∀ o, Below w.heap.size w (w.alloc o) := fun o => (Below.refl _ _).alloc (Nat.le_refl _) o
  go_enter Tryz.func72, Tryz.ntmps72
  go_wp2_with fail
  go_ret
  exact ⟨ret_bool (by simp [MustFallP]), B0 _⟩
theorem MustFall_I (w : World) (wi hi : Int) (wl : -128 ≤ wi) (wu : wi ≤ 127) (hl : -128 ≤ hi) (hu : hi ≤ 127) (a : Option Addr) (c : Nat) (xs : List Pc) (h : SlA Pc.enc 5 w a xs) (ha : a = none → c = 0) (ok : ∀ p ∈ xs, p.Ok) (hxl : xs.length ≤ 1048576) (al : Option Addr) (cl : Nat) (ps : List Pu) (hp : SlA Pu.enc 4 w al ps) (hal : al = none → cl = 0) (okp : ∀ p ∈ ps, p.Ok) (hpl : ps.length ≤ 1048576) (sa : Option Addr) (sc : Nat) (ss : List Sp) (hs : SlA Sp.enc 2 w sa ss) (hsa : sa = none → sc = 0) (oks : ∀ p ∈ ss, p.Ok) (hsl : ss.length ≤ 1048576) :
    Calls Tryz.prog 39 #[.agg #[.int .i8 wi, .int .i8 hi, .slice a xs.length c], .slice al ps.length cl, .slice sa ss.length sc] w (ResS en1 1 2 w (MustFallG wi hi xs ps ss).1 (MustFallG wi hi xs ps ss).2) := by
  obtain ⟨W0, hW0⟩ : ∃ W, W = w.alloc (.cells #[.int .i8 wi, .int .i8 hi, .slice a xs.length c] 36) := ⟨_, rfl⟩
  have B0 : Below w.heap.size w W0 := by rw [hW0]; exact (Below.refl _ _).alloc (Nat.le_refl _) _
  have H1 := hid (withWindow_I 72 (enters_of Tryz.func72 (by kernel_rfl) rfl) #[] MustFallP (fun p _ W => MustFall1_I p W) W0 wi hi wl wu hl hu a c xs (h.below B0) ha ok hxl al cl ps (hp.below B0) hal okp hpl sa sc ss (hs.below B0) hsa oks hsl)
  have HG := hid (show MustFallG wi hi xs ps ss = withG MustFallP wi hi xs ps ss from rfl)
  generalize withG MustFallP wi hi xs ps ss = RR at *
  obtain ⟨R, cd⟩ := RR
  have HB0 := hid B0
  clear h hp hs B0
  go_enter Tryz.func39, Tryz.ntmps39
  go_wp2_with fail
  rw [← hW0]
  clear hW0
  refine H1.out.mono ?_
  rintro e w1 ⟨A, c1, rfl, hb1, own⟩
  have HO := hid own
  have B1 := below_of HB0.out HB0.out.size hb1
  have z0 := HB0.out.size
  clear own
  go_wp2_with fail
  refine bodyPost_ret (v := .tuple #[.slice A R.length c1, .int .i64 cd]) (by simp [results, Tryz.results39, go_sem]) rfl ?_
  rw [HG.out]
  exact ⟨A, c1, rfl, B1, own_low HO.out z0⟩
set_option maxHeartbeats 2000000 in
theorem MustFall_S (w : World) (wi hi : Int) (wl : -128 ≤ wi) (wu : wi ≤ 127) (hl : -128 ≤ hi) (hu : hi ≤ 127) (a : Option Addr) (c : Nat) (xs : List Pc) (h : SlA Pc.enc 5 w a xs) (ha : a = none → c = 0) (ok : ∀ p ∈ xs, p.Ok) (hxl : xs.length ≤ 1048576) (al : Option Addr) (cl : Nat) (ps : List Pu) (hp : SlA Pu.enc 4 w al ps) (hal : al = none → cl = 0) (okp : ∀ p ∈ ps, p.Ok) (hpl : ps.length ≤ 1048576) (sa : Option Addr) (sc : Nat) (ss : List Sp) (hs : SlA Sp.enc 2 w sa ss) (hsa : sa = none → sc = 0) (oks : ∀ p ∈ ss, p.Ok) (hsl : ss.length ≤ 1048576) :
    Calls Tryz.prog 38 #[.agg #[.int .i8 wi, .int .i8 hi, .slice a xs.length c], .slice al ps.length cl, .slice sa ss.length sc] w (ResS en1 1 2 w (MustFallG wi hi xs ps ss).1 (MustFallG wi hi xs ps ss).2) := by
  obtain ⟨W0, hW0⟩ : ∃ W, W = w.alloc (.cells #[.int .i8 wi, .int .i8 hi, .slice a xs.length c] 36) := ⟨_, rfl⟩
  have B0 : Below w.heap.size w W0 := by rw [hW0]; exact (Below.refl _ _).alloc (Nat.le_refl _) _
  have H1 := WindowsOf_S W0 wi hi wl wu hl hu a c xs (h.below B0) ha ok hxl al cl ps (hp.below B0) hal okp hpl sa sc ss (hs.below B0) hsa oks hsl
  have hRl := WindowsOf_len wi hi xs ps ss hxl
  have HG := hid (show MustFallG wi hi xs ps ss = (idxP MustFallP (WindowsOfG wi hi xs ps ss).1 (WindowsOfG wi hi xs ps ss).1.length, (WindowsOfG wi hi xs ps ss).2.2) from rfl)
  generalize (WindowsOfG wi hi xs ps ss).1 = R at *
  generalize (WindowsOfG wi hi xs ps ss).2.1 = sd at *
  generalize (WindowsOfG wi hi xs ps ss).2.2 = cd at *
  have H1 := hid H1
  have HB0 := hid B0
  clear h hp hs B0
  go_enter Tryz.func38, Tryz.ntmps38
  go_wp2_with fail
  rw [← hW0]
  clear hW0
  refine H1.out.mono ?_
  rintro e w1 ⟨A, c1, rfl, hb1, own⟩
  have HR := hid (SlA.of_own (enc := Wn.enc) (n := 4) (fun _ => rfl) own)
  have B1 := below_of HB0.out HB0.out.size hb1
  have z1 := B1.size
  have HB1 := hid B1
  clear own hb1 B1
  go_wp2_with fail
  go_loopw [11, 12] (fun o i wr => ∃ (k m : Nat) (B : Option Addr) (c2 : Nat), k ≤ R.length ∧ i = .int .i64 k ∧ o = .slice B m c2 ∧ m = (idxP MustFallP R k).length ∧ wr.ownsRow w1.heap.size 2 1 (.slice B m c2) m ((idxP MustFallP R k).flatMap en1) ∧ Below w1.heap.size w1 wr) (fun _ i _ => R.length - (intOf i).toNat)
  case atStart => exact ⟨0, 0, _, _, Nat.zero_le _, rfl, rfl, rfl, by simpa [idxP] using World.ownsRow_lit w1 #[] 0 (Nat.le_refl _) (by simp [maxLen]) (by simp), (Below.refl _ _).alloc (Nat.le_refl _) _⟩
  case round =>
    obtain ⟨k, m, B, c2, hk, rfl, rfl, hm, own, hbl⟩ := hrel
    have Ho := hid own
    have HBL := hid hbl
    have hz := hbl.size
    have hmk : m ≤ k := by rw [hm]; exact idxP_le MustFallP R k
    have HM := hid hm
    by_cases hlt : k < R.length
    · have hd : decide ((k : Int) < (R.length : Int)) = true := by rw [decide_eq_true_iff]; omega
      have hki : (k : Int) < (R.length : Int) := by omega
      obtain ⟨b1, o1, rfl, hb1, hc1⟩ := (HR.out.below hbl).cells (by omega)
      have e1 : R[k]? = some R[k] := List.getElem?_eq_getElem hlt
      have Hp := hid e1
      clear e1
      generalize R[k] = p at *
      obtain ⟨r, hr⟩ : ∃ r, MustFallP p = r := ⟨_, rfl⟩
      have Hr := hid hr
      have f0 : wr.cell? ⟨b1, o1 + k * 4, none⟩ = some (.int .u8 p.si) := hc1 k _ Hp.out 0 _ rfl
      have f1 : wr.cell? ⟨b1, o1 + k * 4 + 1, none⟩ = some (.bool p.su) := hc1 k _ Hp.out 1 _ rfl
      rw [show p.su = r from hr] at f1
      clear hr hc1 own hbl hm
      cases r
      · go_wp2_with fail
        exact ⟨⟨k + 1, m, B, c2, by omega, by go_num, rfl, by rw [idxP_no Hp.out Hr.out, HM.out], by rw [idxP_no Hp.out Hr.out]; exact Ho.out, HBL.out⟩, by simp [intOf]; omega⟩
      · go_wp2_with (at_builtin; refine app_one (w := wr) 56 2 (.int .i64 0) 1 8 Tryz.underlying56 (by kernel_rfl) rfl (by decide) w1.heap.size _ m _ Ho.out ?c1 (by decide) hz [.int .i64 k] _ _ rfl rfl rfl _ rfl ?c3 rfl (by intro u hu; simp at hu; rcases hu with rfl; rfl) ?_)
        case c1 => omega
        case c3 => rfl
        intro A2 c3 w3 own3 hb3 hg3 hat3
        have HO3 := hid own3
        have HB3 := hid (HBL.out.trans hb3)
        clear own3 hb3 hg3 hat3
        go_wp2_with fail
        refine ⟨⟨k + 1, m + 1, A2, c3, by omega, by go_num, rfl, by rw [idxP_yes Hp.out Hr.out, HM.out]; simp, ?_, HB3.out⟩, by simp [intOf]; omega⟩
        rw [idxP_yes Hp.out Hr.out, List.flatMap_append]
        simpa [en1] using HO3.out
    · obtain rfl : k = R.length := by omega
      have hd : decide ((R.length : Int) < (R.length : Int)) = false := by rw [decide_eq_false_iff_not]; omega
      clear own hbl hm
      go_wp2_with fail
      refine bodyPost_ret (v := .tuple #[.slice B m c2, .int .i64 cd]) (by simp [results, Tryz.results38, go_sem]) rfl ?_
      rw [HG.out]
      refine ⟨B, c2, by rw [HM.out], HB1.out.trans (HBL.out.mono z1), ?_⟩
      rw [← HM.out]
      exact own_low Ho.out z1
end Go.Proofs.YtpnkaooodbfcpaaGreat
