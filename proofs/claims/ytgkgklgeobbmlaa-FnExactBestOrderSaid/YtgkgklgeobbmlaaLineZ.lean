/-
  LayLine, the program's; both sides as the law's call wants them.
  Conditions: the fields are in their kinds' ranges.
-/
import Derived.Test.YtgkgklgeobbmlaaLineC
namespace Go.Proofs.Ytgkgklgeobbmlaa
open Go.RowKit
set_option linter.unusedSimpArgs false
set_option linter.unusedVariables false

theorem layD0 (wi hi : Int) (xs : List Pc) (P : List Ce) (p : Wy) (sl : List Pc × Int) : layDG wi hi xs P p 0 sl = layG wi hi xs P p := by
  unfold layDG layG
  rw [if_neg (show ¬ (0 : Int) < 0 by decide)]
theorem short_cut (wi hi : Int) (xs : List Pc) (p : Wy) : LayLineG wi hi xs p = if (ShortG wi hi xs p).2 = 0 then layG wi hi xs (ShortG wi hi xs p).1 p else ((0, 0, []), (ShortG wi hi xs p).2) := by
  unfold LayLineG
  by_cases h : bdOk wi hi xs = true ∧ wayB wi hi xs p = true
  · have hS : ShortG wi hi xs p = shortG wi hi xs p := by unfold ShortG; rw [if_pos (by rw [h.1, h.2]; rfl)]
    rw [if_pos h, hS]
    rfl
  · have hS : ShortG wi hi xs p = ([], 1) := by
      unfold ShortG
      rw [if_neg (fun e => h (by rw [Bool.and_eq_true] at e; exact e))]
    rw [if_neg h, hS]
    rfl
/-- What is right of the cells of a shortest line. -/
theorem Short_ok {wi hi : Int} {xs : List Pc} {p : Wy} (h0 : (ShortG wi hi xs p).2 = 0) : LineOk (ShortG wi hi xs p).1 p.sd p.ou ∧ (∀ q ∈ (ShortG wi hi xs p).1, (0 ≤ q.x ∧ q.x ≤ 23) ∧ (0 ≤ q.y ∧ q.y ≤ 23)) ∧ (ShortG wi hi xs p).1.length ≤ 577 ∧ ((ShortG wi hi xs p).1.length ≤ 120 → pathB (ShortG wi hi xs p).1 = true) := by
  unfold ShortG at h0 ⊢
  by_cases h : (bdOk wi hi xs && wayB wi hi xs p) = true
  · rw [if_pos h] at h0 ⊢
    rw [Bool.and_eq_true] at h
    obtain ⟨hb, hw⟩ := h
    obtain ⟨h1, h2, _⟩ := bd_in hb
    obtain ⟨m, rfl⟩ : ∃ m : Nat, wi = (m : Int) := ⟨wi.toNat, by omega⟩
    obtain ⟨n, rfl⟩ : ∃ n : Nat, hi = (n : Int) := ⟨hi.toNat, by omega⟩
    obtain ⟨a1, a2, a3⟩ := short_line (wi := m) (hi := n) (by omega) (by omega) hw h0
    refine ⟨a1, a2, a3, fun h120 => ?_⟩
    obtain ⟨hf, ht, hsd, hou, hone⟩ := way_parts hw
    unfold shortG at h0 h120 ⊢
    by_cases hd : farD m n xs p.fx p.fy p.tx p.ty < 0
    · rw [if_pos hd] at h0
      exact absurd (show (6 : Int) = 0 from h0) (by decide)
    · rw [if_neg hd] at h0 h120 ⊢
      cases he : endsB p (pathW m n xs p) with
      | true =>
        rw [he, if_pos rfl] at h0
        exact absurd (show (4 : Int) = 0 from h0) (by decide)
      | false =>
        rw [he, if_neg (by simp)] at h120
        rw [if_neg (by simp)]
        exact way_path (path_way hf (by omega)) h1.2 h2.2 h120
  · rw [if_neg h] at h0
    exact absurd (show (1 : Int) = 0 from h0) (by decide)
set_option maxRecDepth 100000 in
set_option maxHeartbeats 8000000 in
theorem LayLine_I (w : World) (wi hi : Int) (wl : -128 ≤ wi) (wu : wi ≤ 127) (hl : -128 ≤ hi) (hu : hi ≤ 127) (a : Option Addr) (c : Nat) (xs : List Pc) (h : SlA Pc.enc 5 w a xs) (hnc : a = none → c = 0) (ok : ∀ p ∈ xs, p.Ok) (hs : xs.length ≤ 1048576) (p : Wy) (okp : p.Ok) :
    Calls Try.prog 11 #[.agg #[.int .i8 wi, .int .i8 hi, .slice a xs.length c], .agg p.enc.toArray] w (ResK w (LayLineG wi hi xs p)) := by
  obtain ⟨W1, hW1⟩ : ∃ W, W = w.alloc (.cells #[.int .i8 wi, .int .i8 hi, .slice a xs.length c] 32) := ⟨_, rfl⟩
  have B1 : Below w.heap.size w W1 := by rw [hW1]; exact (Below.refl _ _).alloc (Nat.le_refl _) _
  have bd1 : BdA W1 w.heap.size wi hi a xs.length c := by rw [hW1]; exact bd_box _ _ _ _ _ _ _
  obtain ⟨W2, hW2⟩ : ∃ W, W = W1.alloc (.cells p.enc.toArray 38) := ⟨_, rfl⟩
  have B2 : Below W1.heap.size W1 W2 := by rw [hW2]; exact (Below.refl _ _).alloc (Nat.le_refl _) _
  have wy2 : WyA W2 W1.heap.size p := by
    rw [hW2]
    exact ⟨by simp, by simp [go_sem, Wy.enc], by simp [go_sem, Wy.enc], by simp [go_sem, Wy.enc], by simp [go_sem, Wy.enc], by simp [go_sem, Wy.enc], by simp [go_sem, Wy.enc]⟩
  obtain ⟨W3, hW3⟩ : ∃ W, W = W2.alloc (.cells #[.int .i8 0, .int .i8 0, .slice none 0 0] 32) := ⟨_, rfl⟩
  have B3 : Below W2.heap.size W2 W3 := by rw [hW3]; exact (Below.refl _ _).alloc (Nat.le_refl _) _
  have HR := hid (show BoQ W3 W2.heap.size 0 0 none 0 0 by rw [hW3]; exact boq_new _ _ _ _ _ _ _)
  have hs1 : W1.heap.size = w.heap.size + 1 := by rw [hW1]; simp
  have hs2 : W2.heap.size = w.heap.size + 1 + 1 := by rw [hW2]; simp [hs1]
  have hb12 := below_of B1 B1.size B2
  have hb13 := below_of hb12 hb12.size B3
  have HB3 := hid hb13
  have hs3 : W2.heap.size < W3.heap.size := by rw [hW3]; simp
  have HK := hid (fun W (hW : Below W3.heap.size W3 W) => (⟨(((bd1.below B2 bd1.lt).below B3 (Nat.lt_of_lt_of_le bd1.lt B2.size)).below hW (Nat.lt_of_lt_of_le bd1.lt (by omega))), (h.below hb13).below hW, (wy2.below B3).below hW⟩ : BdA W w.heap.size wi hi a xs.length c ∧ SlA Pc.enc 5 W a xs ∧ WyA W W1.heap.size p))
  rw [hs2] at HR
  rw [hs1] at HK
  rw [hW2, hW1] at hW3
  have HG := hid (short_cut wi hi xs p)
  have HSh := hid (ShortestCells_I wi hi ⟨wl, wu, hl, hu⟩ a c xs hs ok p okp W3 (h.below hb13))
  have HOk := hid (fun h0 => Short_ok (wi := wi) (hi := hi) (xs := xs) (p := p) h0)
  generalize LayLineG wi hi xs p = G at *
  generalize ShortG wi hi xs p = S at *
  have HOkp := hid okp
  clear B1 B2 B3 bd1 wy2 hb12 hb13 hs1 hs2 hs3 hW1 hW2 h okp
  obtain ⟨⟨-, g0, g1, g2⟩, -, ⟨-, y0, y1, y2, y3, y4, y5⟩⟩ := HK.out W3 (Below.refl _ _)
  obtain ⟨rb, hrb⟩ : ∃ rb, w.heap.size + 1 + 1 = rb := ⟨_, rfl⟩
  have HRb := hid (show w.heap.size ≤ rb by omega)
  rw [hrb] at HR
  unfold Wy.enc at hW3 HSh
  unfold Wy.enc
  go_enter Try.func11, Try.ntmps11
  go_upto_region 1 with fail
  rw [← hW3]
  (try rw [hrb])
  clear hW3 hrb
  go_wp2_with fail
  refine HSh.out.mono ?_
  rintro e w4 ⟨A4, c4, rfl, hb4, own4⟩
  obtain ⟨P, hP⟩ : ∃ P, S.1 = P := ⟨_, rfl⟩
  obtain ⟨cd, hcd⟩ : ∃ cd, S.2 = cd := ⟨_, rfl⟩
  rw [hP] at own4
  rw [hP, hcd] at HG HOk
  rw [hP, hcd]
  have HC4 := hid hb4
  have HB4 := hid (below_of HB3.out HB3.out.size hb4)
  have HR4 := hid (HR.out.below hb4)
  have hsl := SlA.of_own Ce.enc_length own4
  have hcap := (own_caps own4).1
  have HSl := hid hsl
  obtain ⟨n, hn⟩ : ∃ n, P.length = n := ⟨_, rfl⟩
  have HN := hid hn
  rw [hn] at hcap
  rw [hn]
  obtain ⟨⟨-, x0, x1, x2⟩, -, ⟨-, v0, v1, v2, v3, v4, v5⟩⟩ := HK.out w4 hb4
  clear hb4 own4 hP hcd hsl hn g0 g1 g2 y0 y1 y2 y3 y4 y5
  by_cases h0 : cd = 0
  · subst h0
    obtain ⟨hL, hr, h577, hpath⟩ := HOk.out rfl
    have HGG := hid (show G = layDG wi hi xs P p 0 ([], 0) by rw [HG.out, if_pos rfl, layD0])
    have HLd := hid (laid_I w.heap.size wi hi a c xs hs hnc p HOkp.out A4 c4 n P HN.out.symm (by have := HN.out; omega) hcap 0 (by decide) ([], 0) (by simp) w4 (HK.out w4 HC4.out).1 (HK.out w4 HC4.out).2.1 HSl.out hL hpath hr (fun h => absurd h (by decide)))
    unfold Wy.enc at HLd
    rw [← HGG.out] at HLd
    clear hL hr h577 hpath
    go_wp2_with fail
    refine HLd.out.mono ?_
    rintro e w6 ⟨A9, c9, rfl, hb6, own6⟩
    obtain ⟨-, r0, r1, r2, rz⟩ := HR4.out.below hb6
    have z0 := rz 0
    have z1 := rz 1
    have z2 := rz 2
    have HRl := hid HR4.out.lt
    have HB6 := hid (below_of HB4.out HB4.out.size hb6)
    have HO6 := hid own6
    clear rz hb6 own6
    go_wp2_with fail
    refine bodyPost_ret (v := .tuple #[.agg #[.int .i8 G.1.1, .int .i8 G.1.2.1, .slice A9 G.1.2.2.length c9], .int .i64 G.2]) (by simp [results, Try.results11, go_sem, r0, r1, r2]) rfl ⟨A9, c9, rfl, ?_, ?_⟩
    · exact ((HB6.out.setCell (p := ⟨rb, 0, none⟩) HRb.out _).setCell (p := ⟨rb, 1, none⟩) HRb.out _).setCell (p := ⟨rb, 2, none⟩) HRb.out _
    · have hnb : ∀ k, (Value.slice A9 G.1.2.2.length c9).ownBlock = some k → k ≠ rb := fun k hk => by
        have h1 := (HO6.out.lt k hk).1
        have h2 := HRl.out
        omega
      exact own_setE (own_setE (own_setE (own_low HO6.out HB4.out.size) hnb _) hnb _) hnb _
  · have hne : (cd != 0) = true := by simpa using h0
    have HGG := hid (show G = ((0, 0, []), cd) by rw [HG.out, if_neg h0])
    obtain ⟨-, r0, r1, r2, rz⟩ := HR4.out
    have z0 := rz 0
    have z1 := rz 1
    have z2 := rz 2
    clear rz h0
    go_wp2_with fail
    refine bodyPost_ret (v := .tuple #[.agg #[.int .i8 0, .int .i8 0, .slice none 0 0], .int .i64 cd]) (by simp [results, Try.results11, go_sem, r0, r1, r2]) rfl ?_
    rw [HGG.out]
    refine ⟨none, 0, rfl, ?_, World.ownsRow_nil _ _ _ _⟩
    exact ((HB4.out.setCell (p := ⟨rb, 0, none⟩) HRb.out _).setCell (p := ⟨rb, 1, none⟩) HRb.out _).setCell (p := ⟨rb, 2, none⟩) HRb.out _
def LayLineKG (wi hi : Int) (xs : List Pc) (p : Wy) : (Int × Int × List Pc) × Int := LayLineG wi hi xs p
theorem LayLineK_S (w : World) (wi hi : Int) (wl : -128 ≤ wi) (wu : wi ≤ 127) (hl : -128 ≤ hi) (hu : hi ≤ 127) (a : Option Addr) (c : Nat) (xs : List Pc) (h : SlA Pc.enc 5 w a xs) (hnc : a = none → c = 0) (ok : ∀ p ∈ xs, p.Ok) (hs : xs.length ≤ 1048576) (p : Wy) (okp : p.Ok) :
    Calls Try.prog 8 #[.agg #[.int .i8 wi, .int .i8 hi, .slice a xs.length c], .agg p.enc.toArray] w (ResB w (LayLineKG wi hi xs p).1.1 (LayLineKG wi hi xs p).1.2.1 (LayLineKG wi hi xs p).1.2.2 (LayLineKG wi hi xs p).2) :=
  LayLine_S w wi hi wl wu hl hu a c xs h hnc ok hs p okp
theorem LayLineK_I (w : World) (wi hi : Int) (wl : -128 ≤ wi) (wu : wi ≤ 127) (hl : -128 ≤ hi) (hu : hi ≤ 127) (a : Option Addr) (c : Nat) (xs : List Pc) (h : SlA Pc.enc 5 w a xs) (hnc : a = none → c = 0) (ok : ∀ p ∈ xs, p.Ok) (hs : xs.length ≤ 1048576) (p : Wy) (okp : p.Ok) :
    Calls Try.prog 11 #[.agg #[.int .i8 wi, .int .i8 hi, .slice a xs.length c], .agg p.enc.toArray] w (ResB w (LayLineKG wi hi xs p).1.1 (LayLineKG wi hi xs p).1.2.1 (LayLineKG wi hi xs p).1.2.2 (LayLineKG wi hi xs p).2) :=
  LayLine_I w wi hi wl wu hl hu a c xs h hnc ok hs p okp
theorem LayLineK_len (wi hi : Int) (xs : List Pc) (p : Wy) (h : xs.length ≤ 1048576) : (LayLineKG wi hi xs p).1.2.2.length ≤ 1048576 := by
  rw [show LayLineKG wi hi xs p = LayLineG wi hi xs p from rfl, short_cut]
  split
  · unfold layG
    split
    · simp
    · rename_i h1
      show (xs ++ lineL _ p.sd p.ou).length ≤ 1048576
      rw [List.length_append, lineL_len]
      omega
  · simp
end Go.Proofs.Ytgkgklgeobbmlaa
