/-
  SureWidth, both the program's and the reference's.
  Conditions: the fields are in their kinds' ranges.
-/
import Derived.Test.YtnabedhhflfepaaSureLaw
import Derived.Test.YtnabedhhflfepaaRacesS
import Derived.Shelf.Abstract
import Derived.Deep.RegionHeld3
namespace Go.Proofs.Ytnabedhhflfepaa
open Go.RowKit
set_option linter.unusedSimpArgs false
set_option linter.unusedVariables false

theorem idx_Wn (F : Nat) (he : ∀ args W, (callFunc F args).run Try.prog W = .ok (.enter F args) W) (cs : Array Value) (P : Wn → Bool) (a : Option Addr) (c : Nat) (xs : List Wn) (w : World) (h : SlA Wn.enc 4 w a xs) (HF : ∀ p ∈ xs, ∀ W, Below w.heap.size w W → Calls Try.prog F (#[.agg p.enc.toArray] ++ cs) W fun e w' => e = .returned (.bool (P p)) ∧ Below W.heap.size W w') :
    Calls Try.prog 51 #[.slice a xs.length c, .func (.func F) #[] cs] w fun e w' => e = .returned (.int .i64 (idxOf P xs)) ∧ Below w.heap.size w w' := by
  have sa := h.small
  have HF := hid HF
  go_enter Try.func51, Try.ntmps51
  go_wp2_with fail
  go_loopw [8] (fun i wr => ∃ k : Nat, k ≤ xs.length ∧ i = .int .i64 k ∧ (xs.take k).any P = false ∧ Below w.heap.size w wr) (fun i _ => xs.length - (intOf i).toNat)
  case atStart => exact ⟨0, Nat.zero_le _, rfl, rfl, Below.refl _ _⟩
  case round =>
    obtain ⟨k, hk, rfl, ht, hbl⟩ := hrel
    by_cases hlt : k < xs.length
    · obtain ⟨b1, o1, rfl, hb1, hc1⟩ := (h.below hbl).cells (by omega)
      have e1 : xs[k]? = some xs[k] := List.getElem?_eq_getElem hlt
      have Hs := hid (HF.out _ (List.getElem_mem hlt) wr hbl)
      have Hp := hid e1
      have HT := hid ht
      clear ht e1
      generalize xs[k] = p at *
      obtain ⟨r, hr⟩ : ∃ r, P p = r := ⟨_, rfl⟩
      rw [hr] at Hs
      have Hr := hid hr
      have f0 : wr.cell? ⟨b1, o1 + k * 4, none⟩ = some (.int .u8 p.si) := hc1 k _ Hp.out 0 _ rfl
      have f1 : wr.cell? ⟨b1, o1 + k * 4 + 1, none⟩ = some (.bool p.su) := hc1 k _ Hp.out 1 _ rfl
      have f2 : wr.cell? ⟨b1, o1 + k * 4 + 2, none⟩ = some (.int .i64 p.ea) := hc1 k _ Hp.out 2 _ rfl
      have f3 : wr.cell? ⟨b1, o1 + k * 4 + 3, none⟩ = some (.int .i64 p.la) := hc1 k _ Hp.out 3 _ rfl
      clear hr hc1
      cases r
      · go_wp2_with fail
        refine Hs.out.mono ?_
        rintro e w1 ⟨rfl, hb9⟩
        go_wp2_with fail
        exact ⟨⟨k + 1, by omega, by go_num, any_step HT.out Hp.out Hr.out, below_of hbl hbl.size hb9⟩, by simp [intOf]; omega⟩
      · go_wp2_with fail
        refine Hs.out.mono ?_
        rintro e w1 ⟨rfl, hb9⟩
        go_wp2_with fail
        go_ret
        exact ⟨ret_int (idxOf_at HT.out Hp.out Hr.out).symm, below_of hbl hbl.size hb9⟩
    · obtain rfl : k = xs.length := by omega
      have HT := hid ht
      clear ht
      go_wp2_with fail
      go_ret
      refine ⟨ret_int ?_, hbl⟩
      have := HT.out
      rw [List.take_length] at this
      exact (idxOf_none this).symm
theorem has_Wn (F : Nat) (he : ∀ args W, (callFunc F args).run Try.prog W = .ok (.enter F args) W) (cs : Array Value) (P : Wn → Bool) (a : Option Addr) (c : Nat) (xs : List Wn) (w : World) (h : SlA Wn.enc 4 w a xs) (HF : ∀ p ∈ xs, ∀ W, Below w.heap.size w W → Calls Try.prog F (#[.agg p.enc.toArray] ++ cs) W fun e w' => e = .returned (.bool (P p)) ∧ Below W.heap.size W w') :
    Calls Try.prog 28 #[.slice a xs.length c, .func (.func F) #[] cs] w fun e w' => e = .returned (.bool (xs.any P)) ∧ Below w.heap.size w w' := by
  have Hs := hid (idx_Wn F he cs P a c xs w h HF)
  have Hr := hid (idxOf_ge P xs)
  have hl := h.small
  have hm := idxOf_le P xs
  clear h HF
  generalize idxOf P xs = q at *
  go_enter Try.func28, Try.ntmps28
  go_wp2_with fail
  refine Hs.out.mono ?_
  rintro e w1 ⟨rfl, hb⟩
  go_wp2_with fail
  go_ret
  exact ⟨ret_bool Hr.out, hb⟩
set_option maxRecDepth 100000 in
set_option maxHeartbeats 4000000 in
theorem SureWidth_I (w : World) (wi hi : Int) (wl : -128 ≤ wi) (wu : wi ≤ 127) (hl : -128 ≤ hi) (hu : hi ≤ 127) (a : Option Addr) (c : Nat) (xs : List Pc) (h : SlA Pc.enc 5 w a xs) (ha : a = none → c = 0) (ok : ∀ p ∈ xs, p.Ok) (hxl : xs.length ≤ 1048576) (al : Option Addr) (cl : Nat) (ps : List Pu) (hp : SlA Pu.enc 4 w al ps) (hal : al = none → cl = 0) (okp : ∀ p ∈ ps, p.Ok) (hpl : ps.length ≤ 1048576) (most : Int) (ml : -9223372036854775808 ≤ most) (mu : most ≤ 9223372036854775807) :
    Calls Try.prog 9 #[.agg #[.int .i8 wi, .int .i8 hi, .slice a xs.length c], .slice al ps.length cl, .int .i64 most] w fun e w' => e = .returned (.tuple #[.int .i64 (SureWidthG wi hi xs ps most).1, .int .i64 (SureWidthG wi hi xs ps most).2]) ∧ Below w.heap.size w w' := by
  obtain ⟨W0, hW0⟩ : ∃ W, W = w.alloc (.cells #[.int .i8 wi, .int .i8 hi, .slice a xs.length c] 33) := ⟨_, rfl⟩
  have B0 : Below w.heap.size w W0 := by rw [hW0]; exact (Below.refl _ _).alloc (Nat.le_refl _) _
  have hbd : BdA W0 w.heap.size wi hi a xs.length c := by rw [hW0]; exact ⟨by simp, by simp [go_sem], by simp [go_sem], by simp [go_sem]⟩
  have sm := h.small
  have k0 := hbd.c0
  have k1 := hbd.c1
  have k2 := hbd.c2
  have Hp := hid (fun W (hB : Below w.heap.size w W) => ValidPushes_I wi hi a c xs al cl ps W ⟨wl, wu, hl, hu⟩ (h.below hB) ok (hp.below hB) okp)
  have Ht := hid (fun (v : Bool) W (hB : Below w.heap.size w W) => timedOk_I wi hi a c xs v W ⟨wl, wu, hl, hu⟩ (h.below hB) ok)
  obtain ⟨v, hv⟩ : ∃ d, (bdOk wi hi xs && pushesOk xs ps) = d := ⟨_, rfl⟩
  rw [hv] at Hp
  have BD := B0.drew
  have HB0 := hid B0
  have htg : timedG wi hi xs v = if v = true then (if 60 < xs.length then 3 else 0) else 1 := by
    unfold timedG
    rw [← hv]
    cases bdOk wi hi xs <;> cases pushesOk xs ps <;> rfl
  have HGo : ∀ tg : Int, timedG wi hi xs v = tg → tg ≠ 0 → SureWidthG wi hi xs ps most = (0, tg) := by
    intro tg h1 h2
    rw [htg] at h1
    cases v
    · rw [sureG_1 hv, ← h1]; rfl
    · simp only [if_true] at h1
      split at h1
      · rename_i h6; rw [sureG_3 hv h6, ← h1]
      · omega
  have HGo := hid HGo
  have HTG := hid htg
  generalize htv : timedG wi hi xs v = tg at *
  have Ht := hid (fun W (hB : Below w.heap.size w W) => (by have := Ht.out v W hB; rw [htv] at this; exact this : Calls Try.prog 23 #[.agg #[.int .i8 wi, .int .i8 hi, .slice a xs.length c], .bool v] W fun e w' => e = .returned (.int .i64 tg) ∧ Below W.heap.size W w'))
  by_cases htz : tg = 0
  · subst htz
    have hvt : v = true := by
      cases v
      · have := HTG.out; simp at this
      · rfl
    subst hvt
    have h60 : xs.length ≤ 60 := by
      have := HTG.out
      simp only [if_true] at this
      split at this <;> omega
    have hvv : bdOk wi hi xs = true ∧ pushesOk xs ps = true := by simpa using hv
    obtain ⟨hbO, hpO⟩ := hvv
    have HD := hid (fun m b a c al cl sa sc na nc => arS_ok (m := m) h60 hbO hpO b a c al cl sa sc na nc)
    have hon : ∀ p ∈ ps, onB xs p = true := by
      unfold pushesOk at hpO
      simp only [Bool.and_eq_true, List.all_eq_true] at hpO
      exact fun p hp => hpO.2.2 p hp
    have hdd : ∀ p ∈ xs, 1 ≤ p.d ∧ p.d ≤ 9 := fun p hp => (pc_nums (pcs_of hbO p hp)).2.2.2.2
    have HDl := hid (fun W => isDelay_I most W)
    obtain ⟨dm, hdm⟩ : ∃ d, inB most 0 9 = d := ⟨_, rfl⟩
    rw [hdm] at HDl
    have H1 := hid (fun (m : Nat) (hm : m ≤ 9) W (hB : Below W0.heap.size W0 W) => spansOf_I w.heap.size wi hi a c xs 0 m W (hbd.below hB hbd.lt) ((h.below B0).below hB) hxl hdd (by omega) (by omega) (by omega) (by omega))
    have H2 := hid (fun (m : Nat) (hm : m ≤ 9) (A : Option Addr) (C : Nat) W (hB : Below W0.heap.size W0 W) (hw : SlA Sp.enc 2 W A (arS xs m)) => windows_I w.heap.size wi hi a c xs al cl ps A C (arS xs m) W (hbd.below hB hbd.lt) ((h.below B0).below hB) ((hp.below B0).below hB) hw okp (have hh := HD.out m 0 none 0 none 0 none 0 none 0; ⟨hh.n, hh.m, hh.len, hh.pc, hh.pu, hh.sp, hh.one⟩) hon)
    have HSI := hid (fun (m : Nat) => winsOf_si (netOf xs ps (arS xs m)))
    have H3 := hid (fun (m : Nat) (A : Option Addr) (C : Nat) W (hw : SlA Wn.enc 4 W A (winsOf (netOf xs ps (arS xs m)))) => has_Wn 29 (enters_of Try.func29 (by kernel_rfl) rfl) #[] RacesOfP A C (winsOf (netOf xs ps (arS xs m))) W hw (fun p hm W' _ => isRace_I p (HSI.out m p hm) W'))
    have HRl := hid (fun m => show (winsOf (netOf xs ps (arS xs m))).length = xs.length from winsOf_length _)
    have HPs := hid (fun m => show sureP xs ps m = (winsOf (netOf xs ps (arS xs m))).any RacesOfP from rfl)
    have HAl := hid (arS_len xs)
    have HUp := hid (fun m m' (h1 : m ≤ m') h2 => sureP_up h60 hbO hpO h1 h2)
    cases dm
    · have HG := hid (sureG_2 hv (by omega) hdm)
      clear hbd hv hdm hon hdd h hp HTG HGo htv htg hbO hpO
      go_enter Try.func9, Try.ntmps9
      go_upto_region 1 with fail
      rw [← hW0]
      clear hW0
      go_region_held3 (fun w' => w'.cell? ⟨w.heap.size, 0, none⟩ = some (.int .i8 wi) ∧ w'.cell? ⟨w.heap.size, 1, none⟩ = some (.int .i8 hi) ∧ w'.cell? ⟨w.heap.size, 2, none⟩ = some (.slice a xs.length c))
        (first
          | exact bx3_below hb2' (by with_reducible assumption)
          | exact bx3_below hb1' (by with_reducible assumption)
          | exact bx3_below ((Below.refl _ _).drew) ⟨k0, k1, k2⟩)
        (first
          | (go_at_call 24; refine (Hp.out _ BD).mono ?_; rintro e v1 ⟨rfl, hb1'⟩; have B1 := below_of BD BD.size hb1'; have BV1 := below_then ((Below.refl W0.heap.size W0).drew) hb1')
          | (go_at_call 23; refine (Ht.out _ B1).mono ?_; rintro e v2 ⟨rfl, hb2'⟩; have B2 := below_of B1 B1.size hb2'; have BV2 := below_then BV1 hb2'))
      go_wp2_with fail
      refine (HDl.out _).mono ?_
      rintro e w5 ⟨rfl, rfl⟩
      go_wp2_with fail
      go_ret2
      rw [HG.out]
      exact ⟨rfl, B2⟩
    · have hmi := hdm
      rw [inB_iff] at hmi
      obtain ⟨M, rfl⟩ := Int.eq_ofNat_of_zero_le hmi.1
      have hM9 : M ≤ 9 := by omega
      have HG := hid (sureG_0 hv (by omega) hdm)
      generalize hPP : sureP xs ps = P at *
      clear hbd hv hdm hon hdd h hp HTG HGo htv htg hbO hpO hPP
      go_enter Try.func9, Try.ntmps9
      go_upto_region 1 with fail
      rw [← hW0]
      clear hW0
      go_region_held3 (fun w' => w'.cell? ⟨w.heap.size, 0, none⟩ = some (.int .i8 wi) ∧ w'.cell? ⟨w.heap.size, 1, none⟩ = some (.int .i8 hi) ∧ w'.cell? ⟨w.heap.size, 2, none⟩ = some (.slice a xs.length c))
        (first
          | exact bx3_below hb2' (by with_reducible assumption)
          | exact bx3_below hb1' (by with_reducible assumption)
          | exact bx3_below ((Below.refl _ _).drew) ⟨k0, k1, k2⟩)
        (first
          | (go_at_call 24; refine (Hp.out _ BD).mono ?_; rintro e v1 ⟨rfl, hb1'⟩; have B1 := below_of BD BD.size hb1'; have BV1 := below_then ((Below.refl W0.heap.size W0).drew) hb1')
          | (go_at_call 23; refine (Ht.out _ B1).mono ?_; rintro e v2 ⟨rfl, hb2'⟩; have B2 := below_of B1 B1.size hb2'; have BV2 := below_then BV1 hb2'))
      have HB2 := hid B2
      have BV := hid BV2
      clear B2 B1 BV1 BV2 hb1' hb2'
      go_wp2_with fail
      refine (HDl.out _).mono ?_
      rintro e w5 ⟨rfl, rfl⟩
      go_wp2_with fail
      go_loopw [9, 10] (fun ov iv wr => ∃ m : Nat, m ≤ M ∧ ov = .int .i64 m ∧ iv = .int .i64 ((m : Int) + 1) ∧ (∀ j, 0 < j → j ≤ m → P j = false) ∧ Below v2.heap.size v2 wr) (fun _ iv _ => M + 1 - (intOf iv).toNat)
      case atStart => exact ⟨0, Nat.zero_le _, rfl, rfl, fun j h1 h2 => by omega, Below.refl _ _⟩
      case round =>
        obtain ⟨m, hm, rfl, rfl, hno, hbl⟩ := hrel
        obtain ⟨V, hV⟩ : ∃ V, V = wr := ⟨_, rfl⟩
        subst hV
        have HNO := hid hno
        have HBL := hid hbl
        have HBV := hid (below_then BV.out hbl)
        clear hno hbl
        by_cases hlt : m < M
        · have hl1 : (m : Int) + 1 ≤ (M : Int) := by omega
          have hl2 : decide ((m : Int) + 1 ≤ (M : Int)) = true := decide_eq_true hl1
          have h1 := H1.out (m + 1) (by omega) V HBV.out
          rw [show (((m + 1 : Nat) : Nat) : Int) = (m : Int) + 1 by omega] at h1
          have h1 := hid h1
          have hw2 : IntKind.i64.wrap ((m : Int) + 1 + 1) = (m : Int) + 1 + 1 := IntWalk.i64_in _ (by omega)
          go_wp2_with fail
          refine h1.out.mono ?_
          rintro e w6 ⟨A6, c6, rfl, hb6, own6⟩
          have hal6 : (xs.map (aroundG 0 ((m : Int) + 1))) = arS xs (m + 1) := by unfold arS; rw [show (((m + 1 : Nat) : Nat) : Int) = (m : Int) + 1 by omega]
          rw [hal6] at own6 ⊢
          have HS6 := hid (SlA.of_own (enc := Sp.enc) (n := 2) Sp.enc_length own6)
          have h2 := hid (H2.out (m + 1) (by omega) A6 c6 w6 (below_then HBV.out hb6) HS6.out)
          have HB6 := hid (below_then HBL.out hb6)
          clear own6 hb6
          go_wp2_with fail
          refine h2.out.mono ?_
          rintro e w7 ⟨A7, c7, rfl, hb7, own7⟩
          rw [← HRl.out (m + 1)] at own7
          have HS7 := hid (SlA.of_own (enc := Wn.enc) (n := 4) Wn.enc_length own7)
          have h3 := H3.out (m + 1) A7 c7 w7 HS7.out
          rw [HRl.out (m + 1)] at h3
          rw [← HPs.out (m + 1)] at h3
          have h3 := hid h3
          have HB7 := hid (below_then HB6.out hb7)
          obtain ⟨st, hst⟩ : ∃ b, P (m + 1) = b := ⟨_, rfl⟩
          rw [hst] at h3
          have HST := hid hst
          clear own7 hb7 hst
          cases st
          · have HNN := hid (fun j (h1 : 0 < j) (h2 : j ≤ m + 1) => show P j = false from by
              by_cases e : j = m + 1
              · subst e; exact HST.out
              · exact HNO.out j h1 (by omega))
            go_wp2_with fail
            refine h3.out.mono ?_
            rintro e w8 ⟨rfl, hb8⟩
            have HB8 := hid (below_then HB7.out hb8)
            clear hb8
            go_wp2_with fail
            exact ⟨⟨m + 1, by omega, by go_num, by go_num, HNN.out, HB8.out⟩, by simp [intOf]; omega⟩
          · have hup : upw P M 0 = m := upw_down M 0 m (Nat.zero_le _) (by omega) (fun j h1 h2 => HNO.out j h1 h2) (fun _ => HST.out)
            have HU := hid hup
            clear hup
            go_wp2_with fail
            refine h3.out.mono ?_
            rintro e w8 ⟨rfl, hb8⟩
            go_wp2_with fail
            refine bodyPost_ret (v := .tuple #[.int .i64 m, .int .i64 0]) (by simp [results, Try.results9, go_sem]) rfl ?_
            rw [HG.out, HU.out]
            exact ⟨rfl, below_of HB2.out HB2.out.size (below_then HB7.out hb8)⟩
        · obtain rfl : m = M := by omega
          have hl1 : ¬ (m : Int) + 1 ≤ (m : Int) := by omega
          have hl2 : decide ((m : Int) + 1 ≤ (m : Int)) = false := decide_eq_false hl1
          have hup : upw P m 0 = m := upw_down m 0 m (Nat.zero_le _) (by omega) (fun j h1 h2 => HNO.out j h1 h2) (fun h => by omega)
          have HU := hid hup
          clear hup
          go_wp2_with fail
          refine bodyPost_ret (v := .tuple #[.int .i64 m, .int .i64 0]) (by simp [results, Try.results9, go_sem]) rfl ?_
          rw [HG.out, HU.out]
          exact ⟨rfl, below_of HB2.out HB2.out.size HBL.out⟩
  · have HG := hid (HGo.out tg rfl htz)
    have htn : decide (tg = 0) = false := decide_eq_false htz
    have htm : (tg == 0) = false := by simpa using htz
    have htq : (tg != 0) = true := by simpa using htz
    clear hbd hv h hp HTG HGo htv htg
    go_enter Try.func9, Try.ntmps9
    go_upto_region 1 with fail
    rw [← hW0]
    clear hW0
    go_region_held3 (fun w' => w'.cell? ⟨w.heap.size, 0, none⟩ = some (.int .i8 wi) ∧ w'.cell? ⟨w.heap.size, 1, none⟩ = some (.int .i8 hi) ∧ w'.cell? ⟨w.heap.size, 2, none⟩ = some (.slice a xs.length c))
      (first
        | exact bx3_below hb2' (by with_reducible assumption)
        | exact bx3_below hb1' (by with_reducible assumption)
        | exact bx3_below ((Below.refl _ _).drew) ⟨k0, k1, k2⟩)
      (first
        | (go_at_call 24; refine (Hp.out _ BD).mono ?_; rintro e v1 ⟨rfl, hb1'⟩; have B1 := below_of BD BD.size hb1'; have BV1 := below_then ((Below.refl W0.heap.size W0).drew) hb1')
        | (go_at_call 23; refine (Ht.out _ B1).mono ?_; rintro e v2 ⟨rfl, hb2'⟩; have B2 := below_of B1 B1.size hb2'; have BV2 := below_then BV1 hb2'))
    go_wp2_with fail
    go_ret2
    rw [HG.out]
    exact ⟨rfl, B2⟩
set_option maxRecDepth 100000 in
set_option maxHeartbeats 4000000 in
theorem SureWidth_S (w : World) (wi hi : Int) (wl : -128 ≤ wi) (wu : wi ≤ 127) (hl : -128 ≤ hi) (hu : hi ≤ 127) (a : Option Addr) (c : Nat) (xs : List Pc) (h : SlA Pc.enc 5 w a xs) (ha : a = none → c = 0) (ok : ∀ p ∈ xs, p.Ok) (hxl : xs.length ≤ 1048576) (al : Option Addr) (cl : Nat) (ps : List Pu) (hp : SlA Pu.enc 4 w al ps) (hal : al = none → cl = 0) (okp : ∀ p ∈ ps, p.Ok) (hpl : ps.length ≤ 1048576) (most : Int) (ml : -9223372036854775808 ≤ most) (mu : most ≤ 9223372036854775807) :
    Calls Try.prog 6 #[.agg #[.int .i8 wi, .int .i8 hi, .slice a xs.length c], .slice al ps.length cl, .int .i64 most] w fun e w' => e = .returned (.tuple #[.int .i64 (SureWidthG wi hi xs ps most).1, .int .i64 (SureWidthG wi hi xs ps most).2]) ∧ Below w.heap.size w w' := by
  obtain ⟨W0, hW0⟩ : ∃ W, W = w.alloc (.cells #[.int .i8 wi, .int .i8 hi, .slice a xs.length c] 33) := ⟨_, rfl⟩
  have B0 : Below w.heap.size w W0 := by rw [hW0]; exact (Below.refl _ _).alloc (Nat.le_refl _) _
  have hbd : BdA W0 w.heap.size wi hi a xs.length c := by rw [hW0]; exact ⟨by simp, by simp [go_sem], by simp [go_sem], by simp [go_sem]⟩
  have sm := h.small
  have k2 := hbd.c2
  have HB0 := hid B0
  have H1 := hid (ok_S w.heap.size wi hi a c xs W0 ⟨wl, wu, hl, hu⟩ hbd (h.below B0) ok)
  have H2 := hid (fun W (hB : Below W0.heap.size W0 W) => l02Ok_S w.heap.size wi hi a c xs al cl ps W (hbd.below hB hbd.lt) ((h.below B0).below hB) ((hp.below B0).below hB) okp)
  obtain ⟨d1, hd1⟩ : ∃ d, bdOk wi hi xs = d := ⟨_, rfl⟩
  rw [hd1] at H1
  cases d1
  · have HG := hid (sureG_1 (ps := ps) (most := most) (by rw [hd1]; rfl))
    clear hbd hd1 h hp B0
    go_enter Try.func6, Try.ntmps6
    go_wp2_with fail
    rw [← hW0]
    clear hW0
    refine H1.out.mono ?_
    rintro e w1 ⟨rfl, hb1⟩
    go_wp2_with fail
    go_ret2
    rw [HG.out]
    exact ⟨rfl, below_of HB0.out HB0.out.size hb1⟩
  · rw [pushesOk_S (cells_of hd1)] at H2
    obtain ⟨d2, hd2⟩ : ∃ d, pushesOk xs ps = d := ⟨_, rfl⟩
    rw [hd2] at H2
    cases d2
    · have HG := hid (sureG_1 (ps := ps) (most := most) (by rw [hd1, hd2]; rfl))
      clear hbd hd1 hd2 h hp B0
      go_enter Try.func6, Try.ntmps6
      go_wp2_with fail
      rw [← hW0]
      clear hW0
      refine H1.out.mono ?_
      rintro e w1 ⟨rfl, hb1⟩
      go_wp2_with fail
      refine (H2.out _ hb1).mono ?_
      rintro e w2 ⟨rfl, hb2⟩
      go_wp2_with fail
      go_ret2
      rw [HG.out]
      exact ⟨rfl, below_of HB0.out HB0.out.size (below_then hb1 hb2)⟩
    · have hv : (bdOk wi hi xs && pushesOk xs ps) = true := by rw [hd1, hd2]; rfl
      by_cases h60 : 60 < xs.length
      · have HG := hid (sureG_3 (most := most) hv h60)
        have hg60 : decide ((xs.length : Int) > 60) = true := by rw [decide_eq_true_iff]; omega
        clear hbd hd1 hd2 h hp B0 hv
        go_enter Try.func6, Try.ntmps6
        go_wp2_with fail
        rw [← hW0]
        clear hW0
        refine H1.out.mono ?_
        rintro e w1 ⟨rfl, hb1⟩
        go_wp2_with fail
        refine (H2.out _ hb1).mono ?_
        rintro e w2 ⟨rfl, hb2⟩
        have B2 := below_then hb1 hb2
        have q2 := cell_on B2 k2
        go_wp2_with fail
        go_ret2
        rw [HG.out]
        exact ⟨rfl, below_of HB0.out HB0.out.size B2⟩
      · have hg60 : decide ((xs.length : Int) > 60) = false := by rw [decide_eq_false_iff_not]; omega
        have h60' : xs.length ≤ 60 := by omega
        have HDl := hid (fun W => in_S most 0 9 W)
        obtain ⟨dm, hdm⟩ : ∃ d, inB most 0 9 = d := ⟨_, rfl⟩
        rw [hdm] at HDl
        cases dm
        · have HG := hid (sureG_2 hv h60 hdm)
          clear hbd hd1 hd2 h hp B0 hv hdm
          go_enter Try.func6, Try.ntmps6
          go_wp2_with fail
          rw [← hW0]
          clear hW0
          refine H1.out.mono ?_
          rintro e w1 ⟨rfl, hb1⟩
          go_wp2_with fail
          refine (H2.out _ hb1).mono ?_
          rintro e w2 ⟨rfl, hb2⟩
          have B2 := below_then hb1 hb2
          have q2 := cell_on B2 k2
          go_wp2_with fail
          refine (HDl.out _).mono ?_
          rintro e w3 ⟨rfl, rfl⟩
          go_wp2_with fail
          go_ret2
          rw [HG.out]
          exact ⟨rfl, below_of HB0.out HB0.out.size B2⟩
        · have hmi := hdm
          rw [inB_iff] at hmi
          obtain ⟨M, rfl⟩ := Int.eq_ofNat_of_zero_le hmi.1
          have hM9 : M ≤ 9 := by omega
          have HG := hid (sureG_0 hv h60 hdm)
          have hdd : ∀ p ∈ xs, 1 ≤ p.d ∧ p.d ≤ 9 := fun p hp => (pc_nums (pcs_of hd1 p hp)).2.2.2.2
          have HD := hid (fun m b a c al cl sa sc na nc => arS_ok (m := m) h60' hd1 hd2 b a c al cl sa sc na nc)
          have H3 := hid (fun (m : Nat) (hm : m ≤ 9) W (hB : Below W0.heap.size W0 W) => around_S w.heap.size wi hi a c xs 0 m W (hbd.below hB hbd.lt) ((h.below B0).below hB) hxl hdd (by omega) (by omega) (by omega) (by omega))
          have H4 := hid (fun (m : Nat) (A : Option Addr) (C : Nat) W (hB : Below W0.heap.size W0 W) (hw : SlA Sp.enc 2 W A (arS xs m)) => time_S w.heap.size wi hi a c xs al cl ps A C (arS xs m) W (hbd.below hB hbd.lt) ((h.below B0).below hB) ((hp.below B0).below hB) hw (fun na nc => HD.out m w.heap.size a c al cl A C na nc))
          have H5 := hid (fun (m : Nat) (A : Option Addr) (C : Nat) cb na nc base W hck => winds_S base cb (ClkD.mk w.heap.size wi hi a c xs al cl ps A C (arS xs m) na nc) (rd (netOf xs ps (arS xs m)) (rest (netOf xs ps (arS xs m)) + 1)) W (HD.out m w.heap.size a c al cl A C na nc) hck)
          have hwe := hid (fun (m : Nat) => show winL (mayT (rd (netOf xs ps (arS xs m)) (rest (netOf xs ps (arS xs m)) + 1)).E (rd (netOf xs ps (arS xs m)) (rest (netOf xs ps (arS xs m)) + 1)).L) (rd (netOf xs ps (arS xs m)) (rest (netOf xs ps (arS xs m)) + 1)).E (rd (netOf xs ps (arS xs m)) (rest (netOf xs ps (arS xs m)) + 1)).L xs.length = winsOf (netOf xs ps (arS xs m)) by
            have okN : (netOf xs ps (arS xs m)).Ok := net_ok (HD.out m 0 none 0 none 0 none 0 none 0)
            rw [may_rest okN (rest_is okN).1]; rfl)
          have HSI := hid (fun (m : Nat) => winsOf_si (netOf xs ps (arS xs m)))
          have HRl := hid (fun m => show (winsOf (netOf xs ps (arS xs m))).length = xs.length from winsOf_length _)
          have H6 := hid (fun (m : Nat) (A : Option Addr) (C : Nat) W (hw : SlA Wn.enc 4 W A (winsOf (netOf xs ps (arS xs m)))) => races_S A C (winsOf (netOf xs ps (arS xs m))) W hw (by rw [HRl.out]; omega) (HSI.out m))
          have HRp := hid (fun m => (race_pos (winsOf (netOf xs ps (arS xs m)))).trans (show raceB (winsOf (netOf xs ps (arS xs m))) = sureP xs ps m from rfl))
          have HIl := hid (fun m => idxP_le RacesOfP (winsOf (netOf xs ps (arS xs m))) (winsOf (netOf xs ps (arS xs m))).length)
          have HUp := hid (fun m m' (h1 : m ≤ m') h2 => sureP_up h60' hd1 hd2 h1 h2)
          have HMx := hid (fun (x : Int) W => max_S 0 x W)
          generalize hPP : sureP xs ps = P at *
          clear hbd hd1 hd2 h hp B0 hv hdm hdd hPP
          go_enter Try.func6, Try.ntmps6
          go_wp2_with fail
          rw [← hW0]
          clear hW0
          refine H1.out.mono ?_
          rintro e w1 ⟨rfl, hb1⟩
          go_wp2_with fail
          refine (H2.out _ hb1).mono ?_
          rintro e w2 ⟨rfl, hb2⟩
          have B2 := below_then hb1 hb2
          have HB2 := hid B2
          have q2 := cell_on B2 k2
          clear B2 hb1 hb2
          go_wp2_with fail
          refine (HDl.out _).mono ?_
          rintro e w3 ⟨rfl, rfl⟩
          go_wp2_with fail
          go_loopw [8] (fun iv wr => ∃ m : Nat, m ≤ M + 1 ∧ iv = .int .i64 m ∧ (∀ j, j < m → P j = false) ∧ Below w2.heap.size w2 wr) (fun iv _ => M + 1 - (intOf iv).toNat)
          case atStart => exact ⟨0, Nat.zero_le _, rfl, fun j h1 => by omega, Below.refl _ _⟩
          case round =>
            obtain ⟨m, hm, rfl, hno, hbl⟩ := hrel
            obtain ⟨V, hV⟩ : ∃ V, V = wr := ⟨_, rfl⟩
            subst hV
            have HNO := hid hno
            have HBL := hid hbl
            have HBV := hid (below_then HB2.out hbl)
            clear hno hbl
            by_cases hlt : m ≤ M
            · have hl1 : (m : Int) ≤ (M : Int) := by omega
              have hl2 : decide ((m : Int) ≤ (M : Int)) = true := decide_eq_true hl1
              have h1 := hid (H3.out m (by omega) V HBV.out)
              have hw2 : IntKind.i64.wrap ((m : Int) + 1) = (m : Int) + 1 := IntWalk.i64_in _ (by omega)
              have hw3 : IntKind.i64.wrap ((m : Int) - 1) = (m : Int) - 1 := IntWalk.i64_in _ (by omega)
              go_wp2_with fail
              refine h1.out.mono ?_
              rintro e w6 ⟨A6, c6, rfl, hb6, own6⟩
              have hal6 : (xs.map (aroundG 0 (m : Int))) = arS xs m := rfl
              rw [hal6] at own6 ⊢
              have HS6 := hid (SlA.of_own (enc := Sp.enc) (n := 2) Sp.enc_length own6)
              have h2 := hid (H4.out m A6 c6 w6 (below_then HBV.out hb6) HS6.out)
              have HB6 := hid (below_then HBL.out hb6)
              clear own6 hb6
              go_wp2_with fail
              refine h2.out.mono ?_
              rintro e w7 ⟨cb, na, nc, rfl, hb7, hck⟩
              have HK := hid hck
              have HB7 := hid (below_then HB6.out hb7)
              clear hck hb7
              go_wp2_with fail
              refine (H5.out m A6 c6 _ _ _ _ _ HK.out).mono ?_
              rintro e w8 hr
              rw [hwe.out] at hr
              obtain ⟨A8, c8, rfl, hb8, own8⟩ := hr
              have HS8 := hid (SlA.of_own (enc := Wn.enc) (n := 4) Wn.enc_length own8)
              have h3 := H6.out m A8 c8 w8 HS8.out
              have hrp := HRp.out m
              have hil := HIl.out m
              have hrl := HRl.out m
              have HB8 := hid (below_then HB7.out hb8)
              generalize winsOf (netOf xs ps (arS xs m)) = R at *
              generalize hq : idxP RacesOfP R R.length = Q at *
              have h3 := hid h3
              obtain ⟨st, hst⟩ : ∃ b, P m = b := ⟨_, rfl⟩
              rw [hst] at hrp
              have hQl : Q.length ≤ 60 := by omega
              have hrp2 : decide ((Q.length : Int) > 0) = st := by rw [← hrp, decide_eq_decide]; omega
              have hrp3 : decide ((0 : Int) < (Q.length : Int)) = st := hrp2
              have HST := hid hst
              clear own8 hb8 hst hq hil hrl
              cases st
              · have HNN := hid (fun j (h2 : j < m + 1) => show P j = false from by
                  by_cases e : j = m
                  · subst e; exact HST.out
                  · exact HNO.out j (by omega))
                go_wp2_with fail
                refine h3.out.mono ?_
                rintro e w9 ⟨A9, c9, rfl, hb9, own9⟩
                have HB9 := hid (below_then HB8.out hb9)
                clear hb9 own9
                go_wp2_with fail
                exact ⟨⟨m + 1, by omega, by go_num, HNN.out, HB9.out⟩, by simp [intOf]; omega⟩
              · have hres : max ((m : Int) - 1) 0 = ((upw P M 0 : Nat) : Int) := by
                  rcases Nat.eq_zero_or_pos m with h0 | h0
                  · subst h0
                    have hup : upw P M 0 = 0 := upw_down M 0 0 (Nat.zero_le _) (by omega) (fun j h1 h2 => by omega) (fun _ => HUp.out 0 1 (by omega) HST.out)
                    rw [hup]; rfl
                  · have hup : upw P M 0 = m - 1 := upw_down M 0 (m - 1) (Nat.zero_le _) (by omega) (fun j h1 h2 => HNO.out j (by omega)) (fun _ => by rw [show m - 1 + 1 = m by omega]; exact HST.out)
                    rw [hup]; omega
                have HU := hid hres
                have hmx := HMx.out ((m : Int) - 1)
                generalize max ((m : Int) - 1) 0 = mxv at *
                have hmx := hid hmx
                clear hres
                go_wp2_with fail
                refine h3.out.mono ?_
                rintro e w9 ⟨A9, c9, rfl, hb9, own9⟩
                have HB9 := hid (below_then HB8.out hb9)
                clear hb9 own9
                go_wp2_with fail
                refine (hmx.out _).mono ?_
                rintro e w10 ⟨rfl, rfl⟩
                go_wp2_with fail
                refine bodyPost_ret (v := .tuple #[.int .i64 mxv, .int .i64 0]) (by simp [results, Try.results6, go_sem]) rfl ?_
                rw [HG.out, ← HU.out]
                exact ⟨rfl, below_of HB0.out HB0.out.size (below_then HB2.out HB9.out)⟩
            · obtain rfl : m = M + 1 := by omega
              have hl1 : ¬ ((M + 1 : Nat) : Int) ≤ (M : Int) := by omega
              have hl2 : decide (((M + 1 : Nat) : Int) ≤ (M : Int)) = false := decide_eq_false hl1
              have hw3 : IntKind.i64.wrap (((M + 1 : Nat) : Int) - 1) = ((M + 1 : Nat) : Int) - 1 := IntWalk.i64_in _ (by omega)
              have hup : upw P M 0 = M := upw_down M 0 M (Nat.zero_le _) (by omega) (fun j h1 h2 => HNO.out j (by omega)) (fun h => by omega)
              have hres : max (((M + 1 : Nat) : Int) - 1) 0 = ((upw P M 0 : Nat) : Int) := by rw [hup]; omega
              have HU := hid hres
              have hmx := HMx.out (((M + 1 : Nat) : Int) - 1)
              generalize max (((M + 1 : Nat) : Int) - 1) 0 = mxv at *
              have hmx := hid hmx
              clear hres hup
              generalize ((M + 1 : Nat) : Int) = q at *
              go_wp2_with fail
              refine (hmx.out _).mono ?_
              rintro e w10 ⟨rfl, rfl⟩
              go_wp2_with fail
              refine bodyPost_ret (v := .tuple #[.int .i64 mxv, .int .i64 0]) (by simp [results, Try.results6, go_sem]) rfl ?_
              rw [HG.out, ← HU.out]
              exact ⟨rfl, below_of HB0.out HB0.out.size (below_then HB2.out HBL.out)⟩
end Go.Proofs.Ytnabedhhflfepaa
