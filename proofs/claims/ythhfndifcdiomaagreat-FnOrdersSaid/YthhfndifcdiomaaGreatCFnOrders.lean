/-
  Plain law of orders: a drawn board is right; what the worst accidents of an order are.
  FnOrders' call: it returns true, whatever the bytes are.
  Conditions: none; plain law. none beyond the statement's own.
-/
import Derived.Test.YthhfndifcdiomaaGreatWorsts
import Derived.Test.YthhfndifcdiomaaGreatDrawQ
import Derived.Test.YthhfndifcdiomaaGreatSafeI
namespace Go.Proofs.YthhfndifcdiomaaGreat
open Go.RowKit
set_option linter.unusedSimpArgs false
set_option linter.unusedVariables false

theorem order_ok {wi hi : Int} {xs : List Pc} {gs : List Int} (hz : builtG wi hi xs = 0) (hl : gs.length = xs.length) (hn : gs.Nodup) (hr : ∀ g ∈ gs, 0 ≤ g ∧ g < xs.length) : orderG wi hi xs gs = 0 := by
  unfold orderG
  rw [if_pos hz, if_pos ⟨hl, ordB_iff.2 ⟨hn, fun g hg => by rw [hl]; exact hr g hg⟩⟩]
theorem worsts_at (xs : List Pc) (o : List Int) : ∀ k i, i < k → (worstsL xs o k)[i]? = some (costW (someL (o.take (i + 1)) 0 xs))
  | 0, i, h => absurd h (by omega)
  | k + 1, i, h => by
    show (worstsL xs o k ++ [_])[i]? = _
    have hl := worsts_len xs o k
    by_cases e : i = k
    · subst e
      rw [List.getElem?_append_right (by omega), hl, Nat.sub_self]
      rfl
    · rw [List.getElem?_append_left (by omega)]
      exact worsts_at xs o k i (by omega)
theorem some_all {xs : List Pc} {o : List Int} (h : ∀ i : Nat, i < xs.length → (i : Int) ∈ o) : someL o 0 xs = xs := by
  have key : ∀ (l : List Pc) (i : Nat), (∀ j, i ≤ j → j < i + l.length → (j : Int) ∈ o) → someL o i l = l := by
    intro l
    induction l with
    | nil => intro i _; rfl
    | cons p l ih =>
      intro i h
      unfold someL
      rw [if_pos (any_isN.2 (h i (Nat.le_refl _) (by simp))), ih (i + 1) (fun j h1 h2 => h j (by omega) (by simp; omega))]
  exact key xs 0 (fun j _ hj => h j (by omega))
theorem some_card {xs : List Pc} {o : List Int} (hn : o.Nodup) (hr : ∀ g ∈ o, 0 ≤ g ∧ g < xs.length) : (someL o 0 xs).length = o.length := by
  rw [← (only_perm hn hr).length_eq, only_len hr]
theorem keep_nil (xs : List Pc) : ∀ i, keepL [] i xs = xs := by
  induction xs with
  | nil => intro i; rfl
  | cons p l ih =>
    intro i
    unfold keepL
    rw [ih]
    rfl
theorem left_nil (xs : List Pc) : leftG xs [] = costW xs := by
  unfold leftG
  rw [keep_nil]
theorem peak_ge {l : List Int} : ∀ x ∈ l, x ≤ peakL l := by
  have key : ∀ (l : List Int) (m : Int), m ≤ l.foldl max m ∧ ∀ x ∈ l, x ≤ l.foldl max m := by
    intro l
    induction l with
    | nil => intro m; exact ⟨Int.le_refl _, fun x hx => absurd hx List.not_mem_nil⟩
    | cons a r ih =>
      intro m
      have h1 := ih (max m a)
      rw [List.foldl_cons]
      refine ⟨by omega, fun x hx => ?_⟩
      rcases List.mem_cons.1 hx with rfl | hx
      · omega
      · exact h1.2 x hx
  exact (key l 0).2
theorem ordN_some {xs : List Pc} {gs : List Int} (h : OrdN gs xs.length) : someL gs 0 xs = xs :=
  (some_sub gs xs 0).eq_of_length (by rw [some_card h.nd h.rng, h.len])
theorem some_mem {o : List Int} : ∀ (l : List Pc) (i : Nat), someL o i l = l → ∀ j : Nat, i ≤ j → j < i + l.length → o.any (isN (j : Int)) = true
  | [], i, _, j, h1, h2 => absurd h2 (by simp; omega)
  | p :: l, i, h, j, h1, h2 => by
    have hl := some_len o l (i + 1)
    unfold someL at h
    split at h
    · rename_i hc
      injection h with _ h
      by_cases e : j = i
      · rw [e]; exact hc
      · exact some_mem l (i + 1) h j (by omega) (by simp at h2; omega)
    · have := congrArg List.length h
      simp at this
      omega
theorem ordN_any {xs : List Pc} {gs : List Int} (h : OrdN gs xs.length) {i : Nat} (hi : i < xs.length) : gs.any (isN (i : Int)) = true :=
  some_mem xs 0 (ordN_some h) i (Nat.zero_le _) (by omega)
theorem ord_zeroN {wi hi : Int} {xs : List Pc} {gs : List Int} (hz : builtG wi hi xs = 0) (h : OrdN gs xs.length) : orderG wi hi xs gs = 0 := order_ok hz h.len h.nd h.rng
theorem due_at {xs : List Pc} {gs : List Int} (h : OrdN gs xs.length) {i : Nat} (hi : i < xs.length) : ∃ v, (worstsL xs gs gs.length)[i]? = some v ∧ 0 ≤ v ∧ v ≤ (i : Int) + 1 := by
  refine ⟨_, worsts_at xs gs gs.length i (by rw [h.len]; exact hi), ?_⟩
  have h1 := costW_in (someL (gs.take (i + 1)) 0 xs)
  have h2 := some_card (xs := xs) (o := gs.take (i + 1)) (h.nd.sublist (List.take_sublist _ _)) (fun g hg => h.rng g (List.mem_of_mem_take hg))
  rw [List.length_take] at h2
  omega
theorem due_last {xs : List Pc} {gs : List Int} (h : OrdN gs xs.length) {m : Nat} (hm : xs.length = m + 1) : (worstsL xs gs gs.length)[m]? = some (costW xs) := by
  have h1 := worsts_at xs gs gs.length m (by rw [h.len]; omega)
  rw [show m + 1 = gs.length by rw [h.len, hm], List.take_length, ordN_some h] at h1
  exact h1
theorem safe_ordN (xs : List Pc) : OrdN (ordT xs xs.length) xs.length := by
  obtain ⟨h1, h2, h3⟩ := ord_ok xs xs.length (Nat.le_refl _)
  exact ⟨h1, h2, h3⟩
theorem whole_peak (xs : List Pc) : costW xs ≤ peakT xs xs.length := by
  rcases Nat.eq_zero_or_pos xs.length with h | h
  · have h1 := costW_in xs
    have : peakT xs xs.length = 0 := by rw [h]; rfl
    omega
  · obtain ⟨m, hm⟩ : ∃ m, xs.length = m + 1 := ⟨xs.length - 1, by omega⟩
    have h1 := due_last (safe_ordN xs) hm
    rw [(safe_ordN xs).len] at h1
    rw [← peak_worsts xs xs.length (Nat.le_refl _)]
    exact peak_ge _ (List.mem_of_getElem? h1)
theorem peak_own (xs : List Pc) : peakL (worstsL xs (ordT xs xs.length) (ordT xs xs.length).length) = peakT xs xs.length := by
  rw [(safe_ordN xs).len]
  exact peak_worsts xs xs.length (Nat.le_refl _)
/-- What a law knows of a list that was told. -/
def ToldL (w : World) (n : Nat) (L : List Int) (cd : Int) (e : Ending) (w' : World) : Prop :=
  ∃ A c, e = .returned (.tuple #[.slice A n c, .int .i64 cd]) ∧ Below w.heap.size w w' ∧ SlA en1 1 w' A L
def ToldL2 (w : World) (n : Nat) (L : List Int) (sd cd : Int) (e : Ending) (w' : World) : Prop :=
  ∃ A c, e = .returned (.tuple #[.slice A n c, .int .i64 sd, .int .i64 cd]) ∧ Below w.heap.size w w' ∧ SlA en1 1 w' A L ∧ (A = none → c = 0) ∧ n ≤ c ∧ c ≤ 9223372036854775807
theorem told_of {w : World} {n : Nat} {L : List Int} (hn : L.length = n) {cd : Int} {e : Ending} {w' : World} (h : ResS en1 1 2 w L cd e w') : ToldL w n L cd e w' := by
  subst hn
  obtain ⟨A, c, rfl, hb, own⟩ := h
  exact ⟨A, c, rfl, hb, SlA.of_own en1_length own⟩
theorem told2_of {w : World} {n : Nat} {L : List Int} (hn : L.length = n) {sd cd : Int} {e : Ending} {w' : World} (h : ResS2 en1 1 2 w L sd cd e w') : ToldL2 w n L sd cd e w' := by
  subst hn
  obtain ⟨A, c, rfl, hb, own⟩ := h
  obtain ⟨h1, h2, h3⟩ := own_cap own
  exact ⟨A, c, rfl, hb, SlA.of_own en1_length own, h1, h2, h3⟩
/-- What holds of a drawn order. -/
structure OrdF (n : Nat) (D M : List Int) (T : Nat → Int) (pk pm wh : Int) : Prop where
  dl : D.length = n
  ml : M.length = n
  at_ : ∀ i, i < n → ∃ v, D[i]? = some v ∧ (0 ≤ v ∧ v ≤ (i : Int) + 1) ∧ T (i + 1) = max (T i) v
  t0 : T 0 = 0
  tn : T n = pk
  last : ∀ m, n = m + 1 → D[m]? = some wh
  has : ∀ i : Nat, i < n → M.any (isN (i : Int)) = true
  le : wh ≤ pm
theorem ordF_of {xs : List Pc} {gs : List Int} (h : OrdN gs xs.length) : OrdF xs.length (worstsL xs gs gs.length) (ordT xs xs.length) (fun k => ((worstsL xs gs gs.length).take k).foldl max 0) (peakL (worstsL xs gs gs.length)) (peakT xs xs.length) (costW xs) := by
  refine ⟨by rw [worsts_len, h.len], (safe_ordN xs).len, fun i hi => ?_, rfl, ?_, fun m hm => due_last h hm, fun i hi => ordN_any (safe_ordN xs) hi, whole_peak xs⟩
  · obtain ⟨v, hv, hr⟩ := due_at h hi
    refine ⟨v, hv, hr, ?_⟩
    (try dsimp only)
    rw [List.take_add_one, hv, List.foldl_append]
    rfl
  · (try dsimp only)
    rw [List.take_of_length_le (by rw [worsts_len, h.len]; exact Nat.le_refl _)]
    rfl
set_option maxRecDepth 100000 in
set_option maxHeartbeats 16000000 in
theorem law_FnOrders (w : World) (a0 : Option Addr) (c0 : Nat) (l0 : List Nb) (o0 : ∀ p ∈ l0, p.Ok) (s0 : SlA Nb.enc 1 w a0 l0) (a1 : Option Addr) (c1 : Nat) (l1 : List Nb) (o1 : ∀ p ∈ l1, p.Ok) (s1 : SlA Nb.enc 1 w a1 l1) :
    Calls Tryz.prog 3 #[.slice a0 l0.length c0, .slice a1 l1.length c1] w fun e w' => e = .returned (.bool true) ∧ Below w.heap.size w w' := by
  have hA0 := byt_of o0 s0
  have hA1 := byt_of o1 s1
  have e0 : l0.length = (l0.map Nb.n).length := (List.length_map _).symm
  have e1 : l1.length = (l1.map Nb.n).length := (List.length_map _).symm
  rw [e0, e1]
  clear e0 e1 s0 s1 o0 o1
  generalize l0.map Nb.n = bs at *
  generalize l1.map Nb.n = cs at *
  have HA0 := hid hA0
  have HA1 := hid hA1
  clear hA0 hA1
  go_enter Tryz.func3, Tryz.ntmps3
  go_wp2_with fail
  refine (long_L a0 a1 bs.length cs.length c0 c1 w).mono ?_
  rintro e w1 ⟨r, rfl, hr, rfl⟩
  cases r with
  | true =>
    clear hr
    go_wp2_with fail
    go_ret
    exact ⟨rfl, Below.refl _ _⟩
  | false =>
    obtain ⟨hbs, hcs⟩ := hr rfl
    clear hr
    have HS := hid (small_S w a0 bs c0 HA0.out (by omega))
    go_wp2_with fail
    refine HS.out.mono ?_
    rintro e w2 ⟨wi, hi, xs, A, cc, rfl, hwh, hdr, hb2, own2⟩
    obtain ⟨W3, hW3⟩ : ∃ W3, W3 = w2.alloc (.cells #[.int .i8 (wi : Int), .int .i8 (hi : Int), .slice A xs.length cc] 27) := ⟨_, rfl⟩
    have hB3 : Below w2.heap.size w2 W3 := by rw [hW3]; exact (Below.refl _ _).alloc (Nat.le_refl _) _
    have k0 : W3.cell? ⟨w2.heap.size, 0, none⟩ = some (.int .i8 (wi : Int)) := by rw [hW3]; simp [go_sem]
    have k1 : W3.cell? ⟨w2.heap.size, 1, none⟩ = some (.int .i8 (hi : Int)) := by rw [hW3]; simp [go_sem]
    have k2 : W3.cell? ⟨w2.heap.size, 2, none⟩ = some (.slice A xs.length cc) := by rw [hW3]; simp [go_sem]
    have hn := draw_n hdr hwh
    have hz : builtG wi hi xs = 0 := draw_zero (hdr.ok (by omega) (by omega)) (by omega)
    have ok := draw_pc hdr hwh
    have hsx := (SlA.of_own Pc.enc_length own2).below hB3
    have hcp := own_cap own2
    have HA1 := hid ((HA1.out.keep hb2).keep (hB3))
    have HB3 := hid (below_of hb2 hb2.size hB3)
    have HO := hid (orderD_S W3 a1 cs c1 HA1.out (by omega) wi hi A xs.length cc (by omega))
    have hx1 : -128 ≤ (wi : Int) ∧ (wi : Int) ≤ 127 ∧ -128 ≤ (hi : Int) ∧ (hi : Int) ≤ 127 := by omega
    have HX := hid (show _ ∧ _ ∧ _ ∧ _ ∧ _ from ⟨hz, ok, hsx, hcp, hx1⟩)
    obtain ⟨n, hn2⟩ : ∃ n, xs.length = n := ⟨_, rfl⟩
    rw [hn2] at k2 hn HO hW3
    have HN2 := hid hn2
    obtain ⟨b, hb⟩ : ∃ b, w2.heap.size = b := ⟨_, rfl⟩
    rw [hb] at k0 k1 k2
    rw [hn2]
    clear hsx ok hz hdr hwh hB3 own2 hb2 HA0 hcp hx1 HS hn2
    go_wp2_with fail
    rw [← hW3]
    clear hW3
    (try rw [hb])
    clear hb
    refine HO.out.mono ?_
    rintro e w4 ⟨gs, A4, c4, rfl, hord, hb4, own4⟩
    obtain ⟨hz, ok, hsx, hcp, hx1⟩ := HX.out
    rw [← HN2.out] at hord
    have hF := ordF_of hord
    have hoz := ord_zeroN hz hord
    have hoz2 := ord_zeroN hz (safe_ordN xs)
    have hpo := peak_own xs
    have hgz : gapsG wi hi xs [] = 0 := by
      unfold gapsG
      rw [if_neg (by omega), if_pos (by rfl)]
    have hs4 := SlA.of_own en1_length own4
    have hc4 := own_cap own4
    have eW : WorstsOfG wi hi xs gs = (worstsL xs gs gs.length, 0) := by unfold WorstsOfG; rw [if_pos hoz]
    have eP : PeakOfG wi hi xs gs = (peakL (worstsL xs gs gs.length), 0) := by unfold PeakOfG; rw [if_pos hoz]
    have eS : SafeOrderG wi hi xs = (ordT xs xs.length, peakT xs xs.length, 0) := by unfold SafeOrderG; rw [if_pos hz]
    have eP2 : PeakOfG wi hi xs (ordT xs xs.length) = (peakT xs xs.length, 0) := by unfold PeakOfG; rw [if_pos hoz2, hpo]
    have eWo : WorstWithoutG wi hi xs [] = (costW xs, 0) := by unfold WorstWithoutG; rw [if_pos hgz, left_nil]
    have hxl : xs.length ≤ 1048576 := by have := HN2.out; omega
    have hgn : gs.length = n := by rw [hord.len, HN2.out]
    have hrg : ∀ g ∈ gs, -9223372036854775808 ≤ g ∧ g ≤ 9223372036854775807 := fun g hg => by
      have := hord.rng g hg
      have := HN2.out
      omega
    have hrt : ∀ g ∈ ordT xs xs.length, -9223372036854775808 ≤ g ∧ g ≤ 9223372036854775807 := fun g hg => by
      have := (safe_ordN xs).rng g hg
      have := HN2.out
      omega
    have htl : (ordT xs xs.length).length = n := by rw [(safe_ordN xs).len, HN2.out]
    have hdl : (worstsL xs gs gs.length).length = n := by rw [worsts_len, hgn]
    rw [HN2.out] at hF eS eP2 hrt htl
    rw [hgn] at eW eP hdl hF
    have HWI := hid (fun W (hw : Below w4.heap.size w4 W) => (show Calls Tryz.prog 8 #[.agg #[.int .i8 (wi : Int), .int .i8 (hi : Int), .slice A n cc], .slice A4 n c4] W (ToldL W n (worstsL xs gs n) 0) from by
      have h := WorstsOf_I W wi hi hx1.1 hx1.2.1 hx1.2.2.1 hx1.2.2.2 A cc xs ((hsx.below hb4).below hw) hcp.1 ok (by omega) A4 c4 gs (hs4.below hw) hc4.1 hc4.2.1 hc4.2.2 hrg (by omega)
      rw [eW, HN2.out, hgn] at h
      exact h.mono (fun _ _ h => told_of hdl h)))
    have HWS := hid (fun W (hw : Below w4.heap.size w4 W) => (show Calls Tryz.prog 9 #[.agg #[.int .i8 (wi : Int), .int .i8 (hi : Int), .slice A n cc], .slice A4 n c4] W (ToldL W n (worstsL xs gs n) 0) from by
      have h := WorstsOf_S W wi hi hx1.1 hx1.2.1 hx1.2.2.1 hx1.2.2.2 A cc xs ((hsx.below hb4).below hw) hcp.1 ok (by omega) A4 c4 gs (hs4.below hw) hc4.1 hc4.2.1 hc4.2.2 hrg (by omega)
      rw [eW, HN2.out, hgn] at h
      exact h.mono (fun _ _ h => told_of hdl h)))
    have HPI := hid (fun W (hw : Below w4.heap.size w4 W) => (show Calls Tryz.prog 10 #[.agg #[.int .i8 (wi : Int), .int .i8 (hi : Int), .slice A n cc], .slice A4 n c4] W (fun e w' => e = .returned (.tuple #[.int .i64 (peakL (worstsL xs gs n)), .int .i64 0]) ∧ Below W.heap.size W w') from by
      have h := PeakOf_I W wi hi hx1.1 hx1.2.1 hx1.2.2.1 hx1.2.2.2 A cc xs ((hsx.below hb4).below hw) hcp.1 ok (by omega) A4 c4 gs (hs4.below hw) hc4.1 hc4.2.1 hc4.2.2 hrg (by omega)
      rw [eP, HN2.out, hgn] at h
      exact h))
    have HSI := hid (fun W (hw : Below w4.heap.size w4 W) => (show Calls Tryz.prog 11 #[.agg #[.int .i8 (wi : Int), .int .i8 (hi : Int), .slice A n cc]] W (ToldL2 W n (ordT xs n) (peakT xs n) 0) from by
      have h := SafeOrder_I W wi hi hx1.1 hx1.2.1 hx1.2.2.1 hx1.2.2.2 A cc xs ((hsx.below hb4).below hw) hcp.1 ok (by omega)
      rw [eS, HN2.out] at h
      exact h.mono (fun _ _ h => told2_of htl h)))
    have HSS := hid (fun W (hw : Below w4.heap.size w4 W) => (show Calls Tryz.prog 12 #[.agg #[.int .i8 (wi : Int), .int .i8 (hi : Int), .slice A n cc]] W (ToldL2 W n (ordT xs n) (peakT xs n) 0) from by
      have h := SafeOrder_S W wi hi hx1.1 hx1.2.1 hx1.2.2.1 hx1.2.2.2 A cc xs ((hsx.below hb4).below hw) hcp.1 ok (by omega)
      rw [eS, HN2.out] at h
      exact h.mono (fun _ _ h => told2_of htl h)))
    have HWO := hid (fun W (hw : Below w4.heap.size w4 W) B => (show Calls Tryz.prog 13 #[.agg #[.int .i8 (wi : Int), .int .i8 (hi : Int), .slice A n cc], .slice (some B) 0 0] W (fun e w' => e = .returned (.tuple #[.int .i64 (costW xs), .int .i64 0]) ∧ Below W.heap.size W w') from by
      have h := WorstWithout_I W wi hi hx1.1 hx1.2.1 hx1.2.2.1 hx1.2.2.2 A cc xs ((hsx.below hb4).below hw) hcp.1 ok (by omega) (some B) 0 [] ⟨by simp, fun h => absurd h (by simp)⟩ (fun h => by cases h) (fun p hp => absurd hp List.not_mem_nil) (by simp)
      rw [eWo, HN2.out] at h
      exact h))
    have HP2 := hid (fun W (hw : Below w4.heap.size w4 W) A7 c7 (h7 : SlA en1 1 W A7 (ordT xs n)) (hc7 : (A7 = none → c7 = 0) ∧ n ≤ c7 ∧ c7 ≤ 9223372036854775807) => (show Calls Tryz.prog 10 #[.agg #[.int .i8 (wi : Int), .int .i8 (hi : Int), .slice A n cc], .slice A7 n c7] W (fun e w' => e = .returned (.tuple #[.int .i64 (peakT xs n), .int .i64 0]) ∧ Below W.heap.size W w') from by
      have h := PeakOf_I W wi hi hx1.1 hx1.2.1 hx1.2.2.1 hx1.2.2.2 A cc xs ((hsx.below hb4).below hw) hcp.1 ok (by omega) A7 c7 (ordT xs n) h7 hc7.1 (by rw [htl]; exact hc7.2.1) hc7.2.2 hrt (by rw [htl]; omega)
      rw [eP2, htl, HN2.out] at h
      exact h))
    have HF := hid hF
    have hz3 := hb4.size
    have HB4 := hid (below_of HB3.out HB3.out.size hb4)
    have j0 := cell_on hb4 k0
    have j1 := cell_on hb4 k1
    have j2 := cell_on hb4 k2
    have HJ := hid (fun W (hw : Below w4.heap.size w4 W) => (⟨cell_on hw j0, cell_on hw j1, cell_on hw j2⟩ : W.cell? ⟨b, 0, none⟩ = some (.int .i8 (wi : Int)) ∧ W.cell? ⟨b, 1, none⟩ = some (.int .i8 (hi : Int)) ∧ W.cell? ⟨b, 2, none⟩ = some (.slice A n cc)))
    rw [hgn]
    clear hxl hF hz ok hsx hcp hx1 hord hoz hoz2 hpo hgz hs4 hc4 eW eP eS eP2 eWo hrg hrt htl hdl hb4 own4 k0 k1 k2 HX HN2 HO hgn
    generalize worstsL xs gs n = D at *
    generalize ordT xs n = M at *
    generalize peakT xs n = pm at *
    generalize costW xs = wh at *
    generalize (fun k => (D.take k).foldl max 0) = T at *
    generalize peakL D = pk at *
    go_wp2_with fail
    refine (HWI.out w4 (Below.refl _ _)).mono ?_
    rintro e w5 ⟨A5, c5, rfl, hb5, hs5⟩
    obtain ⟨g0, g1, g2⟩ := HJ.out w5 hb5
    have HB5 := hid hb5
    have HS5 := hid hs5
    clear j0 j1 j2 hb5 hs5
    go_wp2_with fail
    refine (HWS.out w5 HB5.out).mono ?_
    rintro e w6 ⟨A6, c6, rfl, hb6, hs6⟩
    have HB6 := hid (below_of HB5.out HB5.out.size hb6)
    obtain ⟨j0, j1, j2⟩ := HJ.out w6 HB6.out
    have HS5 := hid (HS5.out.below hb6)
    have HS6 := hid hs6
    clear g0 g1 g2 hb6 hs6
    go_wp2_with fail
    refine (HPI.out w6 HB6.out).mono ?_
    rintro e w7 ⟨rfl, hb7⟩
    have HB7 := hid (below_of HB6.out HB6.out.size hb7)
    obtain ⟨g0, g1, g2⟩ := HJ.out w7 HB7.out
    have HS5 := hid (HS5.out.below hb7)
    have HS6 := hid (HS6.out.below hb7)
    clear j0 j1 j2 hb7
    go_wp2_with fail
    refine (HSI.out w7 HB7.out).mono ?_
    rintro e w8 ⟨A8, c8, rfl, hb8, hs8, hc8⟩
    have HB8 := hid (below_of HB7.out HB7.out.size hb8)
    obtain ⟨j0, j1, j2⟩ := HJ.out w8 HB8.out
    have HS5 := hid (HS5.out.below hb8)
    have HS6 := hid (HS6.out.below hb8)
    have HS8 := hid hs8
    clear g0 g1 g2 hb8 hs8 hc8
    go_wp2_with fail
    refine (HSS.out w8 HB8.out).mono ?_
    rintro e w9 ⟨A9, c9, rfl, hb9, hs9, hc9⟩
    have HB9 := hid (below_of HB8.out HB8.out.size hb9)
    obtain ⟨g0, g1, g2⟩ := HJ.out w9 HB9.out
    obtain ⟨W10, hW10⟩ : ∃ W10, W10 = w9.alloc (.cells #[] 2) := ⟨_, rfl⟩
    have hb10 : Below w9.heap.size w9 W10 := by rw [hW10]; exact (Below.refl _ _).alloc (Nat.le_refl _) _
    have HB10 := hid (below_of HB9.out HB9.out.size hb10)
    have HS5 := hid ((HS5.out.below hb9).below hb10)
    have HS6 := hid ((HS6.out.below hb9).below hb10)
    have HS8 := hid ((HS8.out.below hb9).below hb10)
    have HS9 := hid (hs9.below hb10)
    have HC9 := hid hc9
    clear j0 j1 j2 hb9 hs9 hc9 hb10
    go_wp2_with fail
    rw [← hW10]
    clear hW10
    refine (HWO.out W10 HB10.out _).mono ?_
    rintro e w11 ⟨rfl, hb11⟩
    have HB11 := hid (below_of HB10.out HB10.out.size hb11)
    have HS5 := hid (HS5.out.below hb11)
    have HS6 := hid (HS6.out.below hb11)
    have HS8 := hid (HS8.out.below hb11)
    have HS9 := hid (HS9.out.below hb11)
    clear g0 g1 g2 hb11
    go_wp2_with fail
    refine (sameA_S A5 A6 c5 c6 D w11 HS5.out HS6.out n HF.out.dl.symm n HF.out.dl.symm).mono ?_
    rintro e w12 ⟨rfl, hb12⟩
    have HB12 := hid (below_of HB11.out HB11.out.size hb12)
    obtain ⟨j0, j1, j2⟩ := HJ.out w12 HB12.out
    have HS6 := hid (HS6.out.below hb12)
    have HS8 := hid (HS8.out.below hb12)
    have HS9 := hid (HS9.out.below hb12)
    have en1' : ((n : Int) != (n : Int)) = false := by simp
    have en2 : (n != n) = false := by simp
    have epm : (pm != pm) = false := by simp
    clear hb12 HS5
    go_wp2_with fail
    refine (sameA_S A8 A9 c8 c9 M w12 HS8.out HS9.out n HF.out.ml.symm n HF.out.ml.symm).mono ?_
    rintro e w13 ⟨rfl, hb13⟩
    have HB13 := hid (below_of HB12.out HB12.out.size hb13)
    have HS6 := hid (HS6.out.below hb13)
    have HS9 := hid (HS9.out.below hb13)
    clear hb13 HS8 j0 j1 j2
    go_wp2_with fail
    go_loopw [21, 22] (fun mv iv wr => ∃ k : Nat, k ≤ n ∧ iv = .int .i64 k ∧ mv = .int .i64 (T k) ∧ wr = w13) (fun _ iv _ => n - (intOf iv).toNat)
    case atStart => exact ⟨0, Nat.zero_le _, rfl, by rw [HF.out.t0], rfl⟩
    case round =>
      obtain ⟨k, hk, rfl, rfl, rfl⟩ := hrel
      by_cases hlt : k < n
      · obtain ⟨v, hv, hvr, hT⟩ := HF.out.at_ k hlt
        obtain ⟨b6, o6, rfl, hb6, hc6⟩ := en1_cells HS6.out (by rw [HF.out.dl]; omega)
        have f0 : wr.cell? ⟨b6, o6 + k, none⟩ = some (.int .i64 v) := hc6 k v hv
        have hd : decide ((k : Int) < (n : Int)) = true := by rw [decide_eq_true_iff]; omega
        have hki : (k : Int) < (n : Int) := by omega
        have d1 : decide (v < 0) = false := by rw [decide_eq_false_iff_not]; omega
        have d2 : decide ((k : Int) + 1 < v) = false := by rw [decide_eq_false_iff_not]; omega
        have w1 : IntKind.i64.wrap ((k : Int) + 1) = (k : Int) + 1 := IntWalk.i64_in _ (by omega)
        have HT := hid hT
        clear hc6 hv hT
        go_wp2_with fail
        exact ⟨⟨k + 1, by omega, by go_num, congrArg (Value.int .i64) HT.out.symm, trivial⟩, by simp [intOf]; omega⟩
      · have hkn : k = n := by omega
        subst hkn
        have hd : decide ((k : Int) < (k : Int)) = false := by rw [decide_eq_false_iff_not]; omega
        obtain ⟨j0, j1, j2⟩ := HJ.out wr HB13.out
        have epk : (pk != pk) = false := by simp
        rw [HF.out.tn]
        rcases Nat.eq_zero_or_pos k with h0 | h0
        · have d1 : decide (0 < k) = false := by rw [decide_eq_false_iff_not]; omega
          have d2 : decide ((0 : Int) < (k : Int)) = false := by rw [decide_eq_false_iff_not]; omega
          go_wp2_with fail
          clear j0 j1 j2 d1 d2 h0 hd
          obtain ⟨V, hV⟩ : ∃ V, V = wr := ⟨_, rfl⟩
          subst hV
          go_loopw [23] (fun iv wr => ∃ i : Nat, i ≤ k ∧ iv = .int .i64 i ∧ Below V.heap.size V wr) (fun iv _ => k - (intOf iv).toNat)
          case atStart => exact ⟨0, Nat.zero_le _, rfl, Below.refl _ _⟩
          case round =>
            obtain ⟨i, hi', rfl, hbl⟩ := hrel
            have HBL := hid hbl
            have HB14 := hid (below_of HB13.out HB13.out.size hbl)
            obtain ⟨j0, j1, j2⟩ := HJ.out wr HB14.out
            by_cases hlt2 : i < k
            · have hd3 : decide ((i : Int) < (k : Int)) = true := by rw [decide_eq_true_iff]; omega
              have w1 : IntKind.i64.wrap ((i : Int) + 1) = (i : Int) + 1 := IntWalk.i64_in _ (by omega)
              have HC := hid (hasA_S A9 c9 M (i : Int) wr (HS9.out.below hbl) k HF.out.ml.symm)
              rw [HF.out.has i hlt2] at HC
              clear hbl
              go_wp2_with fail
              refine HC.out.mono ?_
              rintro e v1 ⟨rfl, hb1⟩
              have HBv := hid (below_of HBL.out HBL.out.size hb1)
              clear hb1 j0 j1 j2
              go_wp2_with fail
              exact ⟨⟨i + 1, by omega, by go_num, HBv.out⟩, by simp [intOf]; omega⟩
            · have hik : i = k := by omega
              subst hik
              have hd3 : decide ((i : Int) < (i : Int)) = false := by rw [decide_eq_false_iff_not]; omega
              have HC := hid (HP2.out wr HB14.out A9 c9 (HS9.out.below hbl) HC9.out)
              have hle : decide (wh ≤ pm) = true := by rw [decide_eq_true_iff]; exact HF.out.le
              have epm2 : (pm == pm) = true := by simp
              clear hbl
              go_wp2_with fail
              refine HC.out.mono ?_
              rintro e v1 ⟨rfl, hb1⟩
              have HBv := hid (below_of HB4.out HB4.out.size (below_of HB14.out HB14.out.size hb1))
              clear hb1 j0 j1 j2
              go_wp2_with fail
              go_ret
              exact ⟨rfl, HBv.out⟩
        · obtain ⟨m, hm⟩ : ∃ m, k = m + 1 := ⟨k - 1, by omega⟩
          have d1 : decide (0 < k) = true := by rw [decide_eq_true_iff]; omega
          have d2 : decide ((0 : Int) < (k : Int)) = true := by rw [decide_eq_true_iff]; omega
          obtain ⟨b6, o6, rfl, hb6, hc6⟩ := en1_cells HS6.out (by rw [HF.out.dl]; omega)
          have f0 : wr.cell? ⟨b6, o6 + m, none⟩ = some (.int .i64 wh) := hc6 m wh (HF.out.last m hm)
          have wm : IntKind.i64.wrap ((k : Int) - 1) = (m : Int) := by rw [show (k : Int) - 1 = (m : Int) by omega]; exact IntWalk.i64_in _ (by omega)
          have hmk : (m : Int) < (k : Int) := by omega
          have hmk2 : m < k := by omega
          have ewh : (wh != wh) = false := by simp
          clear hc6 hm
          go_wp2_with fail
          clear j0 j1 j2 d1 d2 h0 hd f0 wm hmk hmk2
          obtain ⟨V, hV⟩ : ∃ V, V = wr := ⟨_, rfl⟩
          subst hV
          go_loopw [23] (fun iv wr => ∃ i : Nat, i ≤ k ∧ iv = .int .i64 i ∧ Below V.heap.size V wr) (fun iv _ => k - (intOf iv).toNat)
          case atStart => exact ⟨0, Nat.zero_le _, rfl, Below.refl _ _⟩
          case round =>
            obtain ⟨i, hi', rfl, hbl⟩ := hrel
            have HBL := hid hbl
            have HB14 := hid (below_of HB13.out HB13.out.size hbl)
            obtain ⟨j0, j1, j2⟩ := HJ.out wr HB14.out
            by_cases hlt2 : i < k
            · have hd3 : decide ((i : Int) < (k : Int)) = true := by rw [decide_eq_true_iff]; omega
              have w1 : IntKind.i64.wrap ((i : Int) + 1) = (i : Int) + 1 := IntWalk.i64_in _ (by omega)
              have HC := hid (hasA_S A9 c9 M (i : Int) wr (HS9.out.below hbl) k HF.out.ml.symm)
              rw [HF.out.has i hlt2] at HC
              clear hbl
              go_wp2_with fail
              refine HC.out.mono ?_
              rintro e v1 ⟨rfl, hb1⟩
              have HBv := hid (below_of HBL.out HBL.out.size hb1)
              clear hb1 j0 j1 j2
              go_wp2_with fail
              exact ⟨⟨i + 1, by omega, by go_num, HBv.out⟩, by simp [intOf]; omega⟩
            · have hik : i = k := by omega
              subst hik
              have hd3 : decide ((i : Int) < (i : Int)) = false := by rw [decide_eq_false_iff_not]; omega
              have HC := hid (HP2.out wr HB14.out A9 c9 (HS9.out.below hbl) HC9.out)
              have hle : decide (wh ≤ pm) = true := by rw [decide_eq_true_iff]; exact HF.out.le
              have epm2 : (pm == pm) = true := by simp
              clear hbl
              go_wp2_with fail
              refine HC.out.mono ?_
              rintro e v1 ⟨rfl, hb1⟩
              have HBv := hid (below_of HB4.out HB4.out.size (below_of HB14.out HB14.out.size hb1))
              clear hb1 j0 j1 j2
              go_wp2_with fail
              go_ret
              exact ⟨rfl, HBv.out⟩
end Go.Proofs.YthhfndifcdiomaaGreat
