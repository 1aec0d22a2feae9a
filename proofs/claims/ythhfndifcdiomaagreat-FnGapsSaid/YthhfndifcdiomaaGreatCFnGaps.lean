/-
  FnGaps' call: it returns true, whatever the bytes are.
  Conditions: none beyond the statement's own.
-/
import Derived.Test.YthhfndifcdiomaaGreatGapsW
import Derived.Test.YthhfndifcdiomaaGreatSafeI
import Derived.Test.YthhfndifcdiomaaGreatNeed
namespace Go.Proofs.YthhfndifcdiomaaGreat
open Go.RowKit
set_option linter.unusedSimpArgs false
set_option linter.unusedVariables false

/-- What a law knows of a slice. -/
structure SlQ (w : World) (A : Option Addr) (n c : Nat) (L : List Int) : Prop where
  len : n = L.length
  sl : SlA en1 1 w A L
  nil : A = none → c = 0
  cap : n ≤ c
  max : c ≤ 9223372036854775807
theorem SlQ.below {w w' : World} {A : Option Addr} {n c : Nat} {L : List Int} (h : SlQ w A n c L) (hb : Below w.heap.size w w') : SlQ w' A n c L := ⟨h.len, h.sl.below hb, h.nil, h.cap, h.max⟩
theorem SlQ.of {w : World} {base : Nat} {A : Option Addr} {c : Nat} {L : List Int} (h : w.ownsRow base 2 1 (.slice A L.length c) L.length (L.flatMap en1)) : SlQ w A L.length c L := by
  obtain ⟨h1, h2, h3⟩ := own_cap h
  exact ⟨rfl, SlA.of_own en1_length h, h1, h2, h3⟩
def TolA (w : World) (n : Nat) (L : List Int) (cd : Int) (e : Ending) (w' : World) : Prop :=
  ∃ A c, e = .returned (.tuple #[.slice A n c, .int .i64 cd]) ∧ Below w.heap.size w w' ∧ SlQ w' A n c L
def TolB (w : World) (n : Nat) (L : List Int) (sd cd : Int) (e : Ending) (w' : World) : Prop :=
  ∃ A c, e = .returned (.tuple #[.slice A n c, .int .i64 sd, .int .i64 cd]) ∧ Below w.heap.size w w' ∧ SlQ w' A n c L
def TolW (w : World) (wi hi : Int) (q : Nat) (K : List Pc) (e : Ending) (w' : World) : Prop :=
  ∃ A c, e = .returned (.tuple #[.agg #[.int .i8 wi, .int .i8 hi, .slice A q c], .int .i64 0]) ∧ Below w.heap.size w w' ∧ SlA Pc.enc 5 w' A K
theorem tolA_of {w : World} {n : Nat} {L : List Int} (hn : L.length = n) {cd : Int} {e : Ending} {w' : World} (h : ResS en1 1 2 w L cd e w') : TolA w n L cd e w' := by
  subst hn
  obtain ⟨A, c, rfl, hb, own⟩ := h
  exact ⟨A, c, rfl, hb, SlQ.of own⟩
theorem tolB_of {w : World} {n : Nat} {L : List Int} (hn : L.length = n) {sd cd : Int} {e : Ending} {w' : World} (h : ResS2 en1 1 2 w L sd cd e w') : TolB w n L sd cd e w' := by
  subst hn
  obtain ⟨A, c, rfl, hb, own⟩ := h
  exact ⟨A, c, rfl, hb, SlQ.of own⟩
theorem gap_rng {n : Nat} {L : List Int} (h : GapOk n L) (hn : n ≤ 10) : (∀ p ∈ L, -9223372036854775808 ≤ p ∧ p ≤ 9223372036854775807) ∧ L.length ≤ 10 :=
  ⟨fun p hp => by have := h.2 p hp; omega, Nat.le_trans h.len hn⟩
theorem gap_g {wi hi : Int} {xs : List Pc} {L : List Int} (hz : builtG wi hi xs = 0) (h : GapOk xs.length L) : gapsG wi hi xs L = 0 := by
  unfold gapsG
  rw [if_neg (by omega), if_pos (gap_at h)]
/-- What the fewest gaps, and those by turns, are. -/
def FewL (wi hi : Int) (xs : List Pc) (mo : Int) (R : List Int) (tr fc : Int) (m : Nat) : Prop :=
  (fc = 0 ∧ GapOk xs.length R ∧ leftG xs R ≤ mo ∧ R.length ≤ m ∧ R.length ≤ 2 ∧ 1 ≤ tr ∧ NeedlessGapG wi hi xs R mo = (0, 6)) ∨ (fc = 6 ∧ 2 < m)
theorem few_law {wi hi : Int} {xs : List Pc} {mo : Int} (hz : builtG wi hi xs = 0) (hn : xs.length ≤ 10) (h0 : 0 ≤ mo) :
    FewL wi hi xs mo (FewestGapsG wi hi xs mo 2 300).1 (FewestGapsG wi hi xs mo 2 300).2.1 (FewestGapsG wi hi xs mo 2 300).2.2 (gapT xs (stT xs mo xs.length 0)).length := by
  have hF := few_spec hn mo
  have hG := (gap_ok xs mo h0 xs.length 0 ⟨List.Pairwise.nil, fun g hg => absurd hg List.not_mem_nil⟩ rfl (by omega)).1
  have hL := turns_left xs mo h0 xs.length 0 ⟨List.Pairwise.nil, fun g hg => absurd hg List.not_mem_nil⟩ rfl (by omega)
  have e : FewestGapsG wi hi xs mo 2 300 = if (fewT xs mo 300 2).2.1 = 0 then ((fewT xs mo 300 2).1, ((fewT xs mo 300 2).2.2 : Int), 0) else ([], 0, (fewT xs mo 300 2).2.1) := by
    unfold FewestGapsG
    rw [if_pos hz, if_neg]
    · rfl
    · rintro (h | h | h)
      · omega
      · exact absurd h (by decide)
      · exact absurd h (by decide)
  generalize gapT xs (stT xs mo xs.length 0) = G at *
  generalize fewT xs mo 300 2 = F at *
  rw [e]
  clear e
  rcases hF.code with hc | hc
  · obtain ⟨h1, h2, h3, h4, h5⟩ := hF.found hc
    rw [if_pos hc]
    refine .inl ⟨rfl, incF_gap.1 h1, h3, ?_, h2, by show (1 : Int) ≤ (F.2.2 : Int); omega, ?_⟩
    · refine Nat.not_lt.1 fun hlt => h5 G (incF_gap.2 hG) hlt hL
    · unfold NeedlessGapG
      rw [if_pos (gap_g hz (incF_gap.1 h1)), if_pos h3, first_none]
      · rfl
      · intro i hi
        unfold okN
        rw [decide_eq_false_iff_not]
        refine h5 _ (incF_gap.2 (less_ok (incF_gap.1 h1) i)) ?_
        rw [less_len hi]
        show 0 + i + (F.1.length - (i + 1)) < F.1.length
        have : i < F.1.length := hi
        omega
  · rw [if_neg (by rw [hc]; decide)]
    refine .inr ⟨hc, Nat.not_le.1 fun h => hF.none_ hc G (incF_gap.2 hG) h hL⟩
/-- What is told of some gaps, and what is left without a needless one. -/
structure OwnF (xs : List Pc) (mo : Int) (O : List Int) (kn nc : Int) : Prop where
  code : nc = 0 ∨ nc = 4 ∨ nc = 6
  less : nc = 0 → GapOk xs.length (O.filter (fun g => g != kn)) ∧ leftG xs (O.filter (fun g => g != kn)) ≤ mo ∧ (O.filter (fun g => g != kn)).length + 1 = O.length
theorem ownF_of {wi hi : Int} {xs : List Pc} {mo : Int} {O : List Int} (hz : builtG wi hi xs = 0) (h : GapOk xs.length O) : OwnF xs mo O (NeedlessGapG wi hi xs O mo).1 (NeedlessGapG wi hi xs O mo).2 := by
  unfold NeedlessGapG
  rw [if_pos (gap_g hz h)]
  split
  · cases hf : firstOk (okN xs O mo) O.length with
    | none => exact ⟨.inr (.inr rfl), fun h => absurd (show (6 : Int) = 0 from h) (by decide)⟩
    | some i =>
      obtain ⟨hi, hok⟩ := first_some hf
      refine ⟨.inl rfl, fun _ => ?_⟩
      show GapOk xs.length (O.filter (fun g => g != O.getD i 0)) ∧ leftG xs (O.filter (fun g => g != O.getD i 0)) ≤ mo ∧ (O.filter (fun g => g != O.getD i 0)).length + 1 = O.length
      rw [less_filter h.1 hi]
      refine ⟨less_ok h i, of_decide_eq_true hok, ?_⟩
      rw [less_len hi]
      omega
  · exact ⟨.inr (.inl rfl), fun h => absurd (show (4 : Int) = 0 from h) (by decide)⟩
theorem filt_step {O : List Int} {p : Int → Bool} {k : Nat} {x : Int} (h : O[k]? = some x) : (O.take (k + 1)).filter p = (O.take k).filter p ++ (if p x = true then [x] else []) := by
  rw [List.take_add_one, h, List.filter_append]
  congr 1
  show List.filter p [x] = _
  by_cases hp : p x = true
  · rw [if_pos hp, List.filter_cons_of_pos hp]; rfl
  · rw [if_neg hp, List.filter_cons_of_neg hp]; rfl
set_option maxRecDepth 100000 in
set_option maxHeartbeats 16000000 in
theorem law_FnGaps (w : World) (a0 : Option Addr) (c0 : Nat) (l0 : List Nb) (o0 : ∀ p ∈ l0, p.Ok) (s0 : SlA Nb.enc 1 w a0 l0) (a1 : Option Addr) (c1 : Nat) (l1 : List Nb) (o1 : ∀ p ∈ l1, p.Ok) (s1 : SlA Nb.enc 1 w a1 l1) :
    Calls Tryz.prog 4 #[.slice a0 l0.length c0, .slice a1 l1.length c1] w fun e w' => e = .returned (.bool true) ∧ Below w.heap.size w w' := by
  have hA0 := byt_of o0 s0
  have hA1 := byt_of o1 s1
  have e0 : l0.length = (l0.map Nb.n).length := (List.length_map _).symm
  have e1 : l1.length = (l1.map Nb.n).length := (List.length_map _).symm
  rw [e0, e1]
  clear e0 e1 s0 s1 o0 o1
  generalize l0.map Nb.n = bs at *
  generalize l1.map Nb.n = cs at *
  have HA0 := hid hA0
  have HA1 := hid hA1
  clear hA0 hA1
  go_enter Tryz.func4, Tryz.ntmps4
  go_wp2_with fail
  refine (long_L a0 a1 bs.length cs.length c0 c1 w).mono ?_
  rintro e w1 ⟨r, rfl, hr, rfl⟩
  cases r with
  | true =>
    clear hr
    go_wp2_with fail
    go_ret
    exact ⟨rfl, Below.refl _ _⟩
  | false =>
    obtain ⟨hbs, hcs⟩ := hr rfl
    clear hr
    have HS := hid (small_S w a0 bs c0 HA0.out (by omega))
    go_wp2_with fail
    refine HS.out.mono ?_
    rintro e w2 ⟨wi, hi, xs, A, cc, rfl, hwh, hdr, hb2, own2⟩
    obtain ⟨W3, hW3⟩ : ∃ W3, W3 = w2.alloc (.cells #[.int .i8 (wi : Int), .int .i8 (hi : Int), .slice A xs.length cc] 27) := ⟨_, rfl⟩
    have hB3 : Below w2.heap.size w2 W3 := by rw [hW3]; exact (Below.refl _ _).alloc (Nat.le_refl _) _
    have k0 : W3.cell? ⟨w2.heap.size, 0, none⟩ = some (.int .i8 (wi : Int)) := by rw [hW3]; simp [go_sem]
    have k1 : W3.cell? ⟨w2.heap.size, 1, none⟩ = some (.int .i8 (hi : Int)) := by rw [hW3]; simp [go_sem]
    have k2 : W3.cell? ⟨w2.heap.size, 2, none⟩ = some (.slice A xs.length cc) := by rw [hW3]; simp [go_sem]
    have hn := draw_n hdr hwh
    have hz : builtG wi hi xs = 0 := draw_zero (hdr.ok (by omega) (by omega)) (by omega)
    have ok := draw_pc hdr hwh
    have hsx := (SlA.of_own Pc.enc_length own2).below hB3
    have hcp := own_cap own2
    have HA1 := hid ((HA1.out.keep hb2).keep (hB3))
    have HB3 := hid (below_of hb2 hb2.size hB3)
    have hx1 : -128 ≤ (wi : Int) ∧ (wi : Int) ≤ 127 ∧ -128 ≤ (hi : Int) ∧ (hi : Int) ≤ 127 := by omega
    have HX := hid (show _ ∧ _ ∧ _ ∧ _ ∧ _ from ⟨hz, ok, hsx, hcp, hx1⟩)
    have HAt := hid (at_L a1 c1 cs W3 HA1.out (by omega))
    obtain ⟨n, hn2⟩ : ∃ n, xs.length = n := ⟨_, rfl⟩
    rw [hn2] at k2 hn hW3
    have HN2 := hid hn2
    obtain ⟨b, hb⟩ : ∃ b, w2.heap.size = b := ⟨_, rfl⟩
    rw [hb] at k0 k1 k2
    rw [hn2]
    clear hsx ok hz hdr hwh hB3 own2 hb2 HA0 hcp hx1 HS hn2
    go_wp2_with fail
    rw [← hW3]
    clear hW3
    (try rw [hb])
    clear hb
    refine HAt.out.mono ?_
    rintro e w4 ⟨mo, rfl, hmo, rfl⟩
    obtain ⟨hz, ok, hsx, hcp, hx1⟩ := HX.out
    have hxl : xs.length ≤ 1048576 := by have := HN2.out; omega
    have hxn : xs.length ≤ 10 := by have := HN2.out; omega
    have hF := few_law hz hxn hmo.1
    have hGk := (gap_ok xs mo hmo.1 xs.length 0 ⟨List.Pairwise.nil, fun g hg => absurd hg List.not_mem_nil⟩ rfl (by omega)).1
    have hGl := turns_left xs mo hmo.1 xs.length 0 ⟨List.Pairwise.nil, fun g hg => absurd hg List.not_mem_nil⟩ rfl (by omega)
    have eT : GapsByTurnsG wi hi xs mo = (gapT xs (stT xs mo xs.length 0), 0) := by unfold GapsByTurnsG; rw [if_pos hz, if_neg (by omega)]
    have eC : ∀ L, GapOk xs.length L → CheckGapsG wi hi xs L mo = (decide (leftG xs L ≤ mo), 0) := fun L h => by unfold CheckGapsG; rw [if_pos (gap_g hz h)]
    have eW : ∀ L, GapOk xs.length L → WorstWithoutG wi hi xs L = (leftG xs L, 0) := fun L h => by unfold WorstWithoutG; rw [if_pos (gap_g hz h)]
    have eP : ∀ L, GapOk xs.length L → WithoutPiecesG wi hi xs L = (((wi : Int), (hi : Int), keepL L 0 xs), 0) := fun L h => by unfold WithoutPiecesG; rw [if_pos (gap_g hz h)]
    have HOwn := hid (fun O (h : GapOk xs.length O) => ownF_of (mo := mo) hz h)
    have HKc := hid (fun O (h : GapOk xs.length O) => keep_card h)
    have HFI := hid (fun W (hw : Below W3.heap.size W3 W) => (show Calls Tryz.prog 17 #[.agg #[.int .i8 (wi : Int), .int .i8 (hi : Int), .slice A n cc], .int .i64 mo, .int .i64 2, .int .i64 300] W (TolB W (FewestGapsG wi hi xs mo 2 300).1.length (FewestGapsG wi hi xs mo 2 300).1 (FewestGapsG wi hi xs mo 2 300).2.1 (FewestGapsG wi hi xs mo 2 300).2.2) from by
      have h := FewestGaps_I W wi hi hx1.1 hx1.2.1 hx1.2.2.1 hx1.2.2.2 A cc xs (hsx.below hw) hcp.1 ok hxl mo (by omega) (by omega) 2 (by omega) (by omega) 300 (by omega) (by omega)
      rw [HN2.out] at h
      exact h.mono (fun _ _ h => tolB_of rfl h)))
    have HFS := hid (fun W (hw : Below W3.heap.size W3 W) => (show Calls Tryz.prog 18 #[.agg #[.int .i8 (wi : Int), .int .i8 (hi : Int), .slice A n cc], .int .i64 mo, .int .i64 2, .int .i64 300] W (TolB W (FewestGapsG wi hi xs mo 2 300).1.length (FewestGapsG wi hi xs mo 2 300).1 (FewestGapsG wi hi xs mo 2 300).2.1 (FewestGapsG wi hi xs mo 2 300).2.2) from by
      have h := FewestGaps_S W wi hi hx1.1 hx1.2.1 hx1.2.2.1 hx1.2.2.2 A cc xs (hsx.below hw) hcp.1 ok hxl mo (by omega) (by omega) 2 (by omega) (by omega) 300 (by omega) (by omega)
      rw [HN2.out] at h
      exact h.mono (fun _ _ h => tolB_of rfl h)))
    generalize (FewestGapsG wi hi xs mo 2 300).2.2 = fc at *
    generalize (FewestGapsG wi hi xs mo 2 300).2.1 = tr at *
    generalize (FewestGapsG wi hi xs mo 2 300).1 = R at *
    generalize gapT xs (stT xs mo xs.length 0) = G at *
    have HTI := hid (fun W (hw : Below W3.heap.size W3 W) => (show Calls Tryz.prog 19 #[.agg #[.int .i8 (wi : Int), .int .i8 (hi : Int), .slice A n cc], .int .i64 mo] W (TolA W G.length G 0) from by
      have h := GapsByTurns_I W wi hi hx1.1 hx1.2.1 hx1.2.2.1 hx1.2.2.2 A cc xs (hsx.below hw) hcp.1 ok hxl mo (by omega) (by omega)
      rw [eT, HN2.out] at h
      exact h.mono (fun _ _ h => tolA_of rfl h)))
    have HTS := hid (fun W (hw : Below W3.heap.size W3 W) => (show Calls Tryz.prog 20 #[.agg #[.int .i8 (wi : Int), .int .i8 (hi : Int), .slice A n cc], .int .i64 mo] W (TolA W G.length G 0) from by
      have h := GapsByTurns_S W wi hi hx1.1 hx1.2.1 hx1.2.2.1 hx1.2.2.2 A cc xs (hsx.below hw) hcp.1 ok hxl mo (by omega) (by omega)
      rw [eT, HN2.out] at h
      exact h.mono (fun _ _ h => tolA_of rfl h)))
    have HCG := hid (fun W (hw : Below W3.heap.size W3 W) A2 l c2 L (hq : SlQ W A2 l c2 L) (hg : GapOk xs.length L) => (show Calls Tryz.prog 21 #[.agg #[.int .i8 (wi : Int), .int .i8 (hi : Int), .slice A n cc], .slice A2 l c2, .int .i64 mo] W (fun e w' => e = .returned (.tuple #[.bool (decide (leftG xs L ≤ mo)), .int .i64 0]) ∧ Below W.heap.size W w') from by
      have h := CheckGaps_I W wi hi hx1.1 hx1.2.1 hx1.2.2.1 hx1.2.2.2 A cc xs (hsx.below hw) hcp.1 ok hxl A2 c2 L hq.sl hq.nil (gap_rng hg hxn).1 (by have := (gap_rng hg hxn).2; omega) mo (by omega) (by omega)
      rw [eC L hg, HN2.out, ← hq.len] at h
      exact h))
    have HWW := hid (fun W (hw : Below W3.heap.size W3 W) A2 l c2 L (hq : SlQ W A2 l c2 L) (hg : GapOk xs.length L) => (show Calls Tryz.prog 13 #[.agg #[.int .i8 (wi : Int), .int .i8 (hi : Int), .slice A n cc], .slice A2 l c2] W (fun e w' => e = .returned (.tuple #[.int .i64 (leftG xs L), .int .i64 0]) ∧ Below W.heap.size W w') from by
      have h := WorstWithout_I W wi hi hx1.1 hx1.2.1 hx1.2.2.1 hx1.2.2.2 A cc xs (hsx.below hw) hcp.1 ok hxl A2 c2 L hq.sl hq.nil (gap_rng hg hxn).1 (by have := (gap_rng hg hxn).2; omega)
      rw [eW L hg, HN2.out, ← hq.len] at h
      exact h))
    have HND := hid (fun W (hw : Below W3.heap.size W3 W) A2 l c2 L (hq : SlQ W A2 l c2 L) (hg : GapOk xs.length L) => (show Calls Tryz.prog 22 #[.agg #[.int .i8 (wi : Int), .int .i8 (hi : Int), .slice A n cc], .slice A2 l c2, .int .i64 mo] W (fun e w' => e = .returned (.tuple #[.int .i64 (NeedlessGapG wi hi xs L mo).1, .int .i64 (NeedlessGapG wi hi xs L mo).2]) ∧ Below W.heap.size W w') from by
      have h := NeedlessGap_I W wi hi hx1.1 hx1.2.1 hx1.2.2.1 hx1.2.2.2 A cc xs (hsx.below hw) hcp.1 ok hxl A2 c2 L hq.sl hq.nil (by rw [← hq.len]; exact hq.cap) (gap_rng hg hxn).1 (by have := (gap_rng hg hxn).2; omega) mo (by omega) (by omega)
      rw [HN2.out, ← hq.len] at h
      exact h))
    have HNS := hid (fun W (hw : Below W3.heap.size W3 W) A2 l c2 L (hq : SlQ W A2 l c2 L) (hg : GapOk xs.length L) => (show Calls Tryz.prog 27 #[.agg #[.int .i8 (wi : Int), .int .i8 (hi : Int), .slice A n cc], .slice A2 l c2, .int .i64 mo] W (fun e w' => e = .returned (.tuple #[.int .i64 (NeedlessGapG wi hi xs L mo).1, .int .i64 (NeedlessGapG wi hi xs L mo).2]) ∧ Below W.heap.size W w') from by
      have h := NeedlessGap_S W wi hi hx1.1 hx1.2.1 hx1.2.2.1 hx1.2.2.2 A cc xs (hsx.below hw) hcp.1 ok hxl A2 c2 L hq.sl hq.nil (by rw [← hq.len]; exact hq.cap) (gap_rng hg hxn).1 (by have := (gap_rng hg hxn).2; omega) mo (by omega) (by omega)
      rw [HN2.out, ← hq.len] at h
      exact h))
    have HPI := hid (fun W (hw : Below W3.heap.size W3 W) A2 l c2 L (hq : SlQ W A2 l c2 L) (hg : GapOk xs.length L) => (show Calls Tryz.prog 24 #[.agg #[.int .i8 (wi : Int), .int .i8 (hi : Int), .slice A n cc], .slice A2 l c2] W (TolW W wi hi (keepL L 0 xs).length (keepL L 0 xs)) from by
      have h := WithoutPieces_I W wi hi hx1.1 hx1.2.1 hx1.2.2.1 hx1.2.2.2 A cc xs (hsx.below hw) hcp.1 ok hxl A2 c2 L hq.sl hq.nil (gap_rng hg hxn).1 (by have := (gap_rng hg hxn).2; omega)
      rw [eP L hg, HN2.out, ← hq.len] at h
      exact h.mono (fun _ _ ⟨A, c, h1, h2, h3⟩ => ⟨A, c, h1, h2, SlA.of_own Pc.enc_length h3⟩)))
    have HPS := hid (fun W (hw : Below W3.heap.size W3 W) A2 l c2 L (hq : SlQ W A2 l c2 L) (hg : GapOk xs.length L) => (show Calls Tryz.prog 25 #[.agg #[.int .i8 (wi : Int), .int .i8 (hi : Int), .slice A n cc], .slice A2 l c2] W (TolW W wi hi (keepL L 0 xs).length (keepL L 0 xs)) from by
      have h := WithoutPieces_S W wi hi hx1.1 hx1.2.1 hx1.2.2.1 hx1.2.2.2 A cc xs (hsx.below hw) hcp.1 ok hxl A2 c2 L hq.sl hq.nil (gap_rng hg hxn).1 (by have := (gap_rng hg hxn).2; omega)
      rw [eP L hg, HN2.out, ← hq.len] at h
      exact h.mono (fun _ _ ⟨A, c, h1, h2, h3⟩ => ⟨A, c, h1, h2, SlA.of_own Pc.enc_length h3⟩)))
    have HGk := hid hGk
    have HGl := hid hGl
    have HJ := hid (fun W (hw : Below W3.heap.size W3 W) => (⟨cell_on hw k0, cell_on hw k1, cell_on hw k2⟩ : W.cell? ⟨b, 0, none⟩ = some (.int .i8 (wi : Int)) ∧ W.cell? ⟨b, 1, none⟩ = some (.int .i8 (hi : Int)) ∧ W.cell? ⟨b, 2, none⟩ = some (.slice A n cc)))
    obtain ⟨m, hm⟩ : ∃ m, G.length = m := ⟨_, rfl⟩
    rw [hm] at HTI HTS hF
    have HM := hid hm
    obtain ⟨r, hr⟩ : ∃ r, R.length = r := ⟨_, rfl⟩
    rw [hr] at HFI HFS
    unfold FewL at hF
    rw [hr] at hF
    have HF := hid hF
    have HR := hid hr
    clear hF hz ok hsx hcp hx1 hxl hxn hGk hGl eT eC eW eP HX hr hm HAt
    go_wp2_with fail
    refine (HFI.out W3 (Below.refl _ _)).mono ?_
    rintro e w5 ⟨A5, c5, rfl, hb5, hs5⟩
    obtain ⟨g0, g1, g2⟩ := HJ.out w5 hb5
    have HB5 := hid hb5
    have HS5 := hid hs5
    clear k0 k1 k2 hb5 hs5
    go_wp2_with fail
    refine (HFS.out w5 HB5.out).mono ?_
    rintro e w6 ⟨A6, c6, rfl, hb6, hs6⟩
    have HB6 := hid (below_of HB5.out HB5.out.size hb6)
    obtain ⟨j0, j1, j2⟩ := HJ.out w6 HB6.out
    have HS5 := hid (HS5.out.below hb6)
    have HS6 := hid hs6
    clear g0 g1 g2 hb6 hs6
    go_wp2_with fail
    refine (HTI.out w6 HB6.out).mono ?_
    rintro e w7 ⟨A7, c7, rfl, hb7, hs7⟩
    have HB7 := hid (below_of HB6.out HB6.out.size hb7)
    obtain ⟨g0, g1, g2⟩ := HJ.out w7 HB7.out
    have HS5 := hid (HS5.out.below hb7)
    have HS6 := hid (HS6.out.below hb7)
    have HS7 := hid hs7
    clear j0 j1 j2 hb7 hs7
    go_wp2_with fail
    refine (HTS.out w7 HB7.out).mono ?_
    rintro e w8 ⟨A8, c8, rfl, hb8, hs8⟩
    have HB8 := hid (below_of HB7.out HB7.out.size hb8)
    have HS5 := hid (HS5.out.below hb8)
    have HS6 := hid (HS6.out.below hb8)
    have HS7 := hid (HS7.out.below hb8)
    have HS8 := hid hs8
    have efc : (fc != fc) = false := by simp
    have etr : (tr != tr) = false := by simp
    clear g0 g1 g2 hb8 hs8
    go_wp2_with fail
    refine (sameA_S A5 A6 c5 c6 R w8 HS5.out.sl HS6.out.sl r HS5.out.len r HS6.out.len).mono ?_
    rintro e w9 ⟨rfl, hb9⟩
    have HB9 := hid (below_of HB8.out HB8.out.size hb9)
    have HS6 := hid (HS6.out.below hb9)
    have HS7 := hid (HS7.out.below hb9)
    have HS8 := hid (HS8.out.below hb9)
    clear hb9
    go_wp2_with fail
    refine (sameA_S A7 A8 c7 c8 G w9 HS7.out.sl HS8.out.sl m HS7.out.len m HS8.out.len).mono ?_
    rintro e w10 ⟨rfl, hb10⟩
    have HB10 := hid (below_of HB9.out HB9.out.size hb10)
    have HS6 := hid (HS6.out.below hb10)
    have HS8 := hid (HS8.out.below hb10)
    obtain ⟨g0, g1, g2⟩ := HJ.out w10 HB10.out
    have HC := hid (HCG.out w10 HB10.out A8 m c8 G HS8.out HGk.out)
    have hdl : decide (leftG xs G ≤ mo) = true := decide_eq_true HGl.out
    rw [hdl] at HC
    clear hb10 hdl
    go_wp2_with fail
    refine HC.out.mono ?_
    rintro e w11 ⟨rfl, hb11⟩
    have HB11 := hid (below_of HB10.out HB10.out.size hb11)
    have HS6 := hid (HS6.out.below hb11)
    have HS8 := hid (HS8.out.below hb11)
    obtain ⟨j0, j1, j2⟩ := HJ.out w11 HB11.out
    have HC := hid (HWW.out w11 HB11.out A8 m c8 G HS8.out HGk.out)
    have hgl := HGl.out
    generalize leftG xs G = gl at *
    clear hb11 g0 g1 g2
    go_wp2_with fail
    refine HC.out.mono ?_
    rintro e w12 ⟨rfl, hb12⟩
    have HB12 := hid (below_of HB11.out HB11.out.size hb12)
    have HS6 := hid (HS6.out.below hb12)
    obtain ⟨g0, g1, g2⟩ := HJ.out w12 HB12.out
    have hd1 : decide (mo < gl) = false := by rw [decide_eq_false_iff_not]; omega
    clear hb12 j0 j1 j2 hgl HS5 HS7 HS8
    rcases HF.out with ⟨rfl, hRk, hRl, hrm, hr2, htr, hnd⟩ | ⟨rfl, hm2⟩
    · have HC := hid (HCG.out w12 HB12.out A6 r c6 R HS6.out hRk)
      have hdl : decide (leftG xs R ≤ mo) = true := decide_eq_true hRl
      rw [hdl] at HC
      have HN := hid (fun W hw (hq : SlQ W A6 r c6 R) => HND.out W hw A6 r c6 R hq hRk)
      rw [hnd] at HN
      clear hdl hRk hRl hnd
      go_wp2_with fail
      refine HC.out.mono ?_
      rintro e w13 ⟨rfl, hb13⟩
      have HB13 := hid (below_of HB12.out HB12.out.size hb13)
      have HS6 := hid (HS6.out.below hb13)
      obtain ⟨j0, j1, j2⟩ := HJ.out w13 HB13.out
      have d1 : decide ((m : Int) < (r : Int)) = false := by rw [decide_eq_false_iff_not]; omega
      have d2 : decide ((2 : Int) < (r : Int)) = false := by rw [decide_eq_false_iff_not]; omega
      have d3 : decide (tr < 1) = false := by rw [decide_eq_false_iff_not]; omega
      have d4 : decide (m < r) = false := by rw [decide_eq_false_iff_not]; omega
      have d5 : decide (2 < r) = false := by rw [decide_eq_false_iff_not]; omega
      clear hb13 g0 g1 g2 hrm hr2 htr
      rcases Nat.eq_zero_or_pos r with h0 | h0
      · have d6 : decide ((0 : Int) < (r : Int)) = false := by rw [decide_eq_false_iff_not]; omega
        have d7 : decide (0 < r) = false := by rw [decide_eq_false_iff_not]; omega
        clear h0
        go_wp2_with fail
        clear d1 d2 d3 d4 d5 d6 d7
        have HBV := hid HB13.out
        obtain ⟨V, hV⟩ : ∃ V, V = w13 := ⟨_, rfl⟩
        subst hV
        clear hd1 efc etr
        refine (gapsD_S V a1 cs c1 (HA1.out.keep HBV.out) (by omega) wi hi A n cc (by omega)).mono ?_
        rintro e u1 ⟨O, AO, cO, rfl, hgo, hb1, own1⟩
        have HBu := hid (below_of HBV.out HBV.out.size hb1)
        have hgk : GapOk xs.length O := by rw [HN2.out]; exact hgo
        have hq := SlQ.of own1
        obtain ⟨o, ho⟩ : ∃ o, O.length = o := ⟨_, rfl⟩
        rw [ho] at hq
        rw [ho]
        have HQ := hid hq
        have HGo := hid hgk
        have HO := hid ho
        have hkc := HKc.out O hgk
        rw [ho, HN2.out] at hkc
        have HOw := hid (HOwn.out O hgk)
        have HP1 := hid (HPI.out u1 HBu.out AO o cO O hq hgk)
        have HP2 := hid (fun W hw (hq : SlQ W AO o cO O) => HPS.out W hw AO o cO O hq hgk)
        generalize keepL O 0 xs = K at *
        obtain ⟨q, hqK⟩ : ∃ q, K.length = q := ⟨_, rfl⟩
        rw [hqK] at HP1 HP2 hkc
        have HQK := hid hqK
        clear j0 j1 j2 hb1 own1 hgo hq hgk ho hqK
        obtain ⟨j0, j1, j2⟩ := HJ.out u1 HBu.out
        go_wp2_with fail
        refine HP1.out.mono ?_
        rintro e u2 ⟨A26, c26, rfl, hb2, hs26⟩
        obtain ⟨U2, hU2⟩ : ∃ U, U = u2.alloc (.cells #[.int .i8 (wi : Int), .int .i8 (hi : Int), .slice A26 q c26] 27) := ⟨_, rfl⟩
        have hbU : Below u2.heap.size u2 U2 := by rw [hU2]; exact (Below.refl _ _).alloc (Nat.le_refl _) _
        have m0 : U2.cell? ⟨u2.heap.size, 0, none⟩ = some (.int .i8 (wi : Int)) := by rw [hU2]; simp [go_sem]
        have m1 : U2.cell? ⟨u2.heap.size, 1, none⟩ = some (.int .i8 (hi : Int)) := by rw [hU2]; simp [go_sem]
        have m2 : U2.cell? ⟨u2.heap.size, 2, none⟩ = some (.slice A26 q c26) := by rw [hU2]; simp [go_sem]
        have HBm2 := hid (below_of HBu.out HBu.out.size hb2)
        have HBu2 := hid (below_of (below_of HBu.out HBu.out.size hb2) (below_of HBu.out HBu.out.size hb2).size hbU)
        have HQ := hid ((HQ.out.below hb2).below hbU)
        have HK26 := hid (hs26.below hbU)
        obtain ⟨b26, hb26⟩ : ∃ b26, u2.heap.size = b26 := ⟨_, rfl⟩
        rw [hb26] at m0 m1 m2
        clear j0 j1 j2 hb2 hbU hs26
        obtain ⟨j0, j1, j2⟩ := HJ.out u2 HBm2.out
        have i0 : ∀ oo, (u2.alloc oo).cell? ⟨b, 0, none⟩ = some (.int .i8 (wi : Int)) := fun oo => cell_on ((Below.refl u2.heap.size u2).alloc (Nat.le_refl _) _) j0
        have i1 : ∀ oo, (u2.alloc oo).cell? ⟨b, 1, none⟩ = some (.int .i8 (hi : Int)) := fun oo => cell_on ((Below.refl u2.heap.size u2).alloc (Nat.le_refl _) _) j1
        have i2 : ∀ oo, (u2.alloc oo).cell? ⟨b, 2, none⟩ = some (.slice A n cc) := fun oo => cell_on ((Below.refl u2.heap.size u2).alloc (Nat.le_refl _) _) j2
        have HM26 := hid (fun W (hw : Below U2.heap.size U2 W) => (⟨cell_on hw m0, cell_on hw m1, cell_on hw m2⟩ : W.cell? ⟨b26, 0, none⟩ = some (.int .i8 (wi : Int)) ∧ W.cell? ⟨b26, 1, none⟩ = some (.int .i8 (hi : Int)) ∧ W.cell? ⟨b26, 2, none⟩ = some (.slice A26 q c26)))
        have HC := hid (HP2.out U2 HBu2.out HQ.out)
        go_wp2_with fail
        rw [← hU2]
        clear hU2
        (try rw [hb26])
        clear hb26
        refine HC.out.mono ?_
        rintro e u3 ⟨A28, c28, rfl, hb3, hs28⟩
        obtain ⟨U3, hU3⟩ : ∃ U, U = u3.alloc (.cells #[.int .i8 (wi : Int), .int .i8 (hi : Int), .slice A28 q c28] 27) := ⟨_, rfl⟩
        have hbU : Below u3.heap.size u3 U3 := by rw [hU3]; exact (Below.refl _ _).alloc (Nat.le_refl _) _
        have n0 : U3.cell? ⟨u3.heap.size, 0, none⟩ = some (.int .i8 (wi : Int)) := by rw [hU3]; simp [go_sem]
        have n1 : U3.cell? ⟨u3.heap.size, 1, none⟩ = some (.int .i8 (hi : Int)) := by rw [hU3]; simp [go_sem]
        have n2 : U3.cell? ⟨u3.heap.size, 2, none⟩ = some (.slice A28 q c28) := by rw [hU3]; simp [go_sem]
        have HB23 := hid (below_of hb3 hb3.size hbU)
        obtain ⟨m0', m1', m2'⟩ := HM26.out u3 hb3
        have i3 : ∀ oo, (u3.alloc oo).cell? ⟨b26, 0, none⟩ = some (.int .i8 (wi : Int)) := fun oo => cell_on ((Below.refl u3.heap.size u3).alloc (Nat.le_refl _) _) m0'
        have i4 : ∀ oo, (u3.alloc oo).cell? ⟨b26, 1, none⟩ = some (.int .i8 (hi : Int)) := fun oo => cell_on ((Below.refl u3.heap.size u3).alloc (Nat.le_refl _) _) m1'
        have i5 : ∀ oo, (u3.alloc oo).cell? ⟨b26, 2, none⟩ = some (.slice A26 q c26) := fun oo => cell_on ((Below.refl u3.heap.size u3).alloc (Nat.le_refl _) _) m2'
        have HBu3 := hid (below_of HBu2.out HBu2.out.size HB23.out)
        have HQ := hid (HQ.out.below HB23.out)
        have HK26 := hid (HK26.out.below HB23.out)
        have HK28 := hid (hs28.below hbU)
        obtain ⟨b28, hb28⟩ : ∃ b28, u3.heap.size = b28 := ⟨_, rfl⟩
        rw [hb28] at n0 n1 n2
        clear j0 j1 j2 m0 m1 m2 m0' m1' m2' i0 i1 i2 hb3 hbU hs28
        have HC := hid (sameBd_S q q wi hi A26 A28 c26 c28 K U3 HK26.out HK28.out HQK.out.symm HQK.out.symm)
        have HN28 := hid (fun W (hw : Below U3.heap.size U3 W) => (cell_on hw n2 : W.cell? ⟨b28, 2, none⟩ = some (.slice A28 q c28)))
        go_wp2_with fail
        rw [← hU3]
        clear hU3
        (try rw [hb28])
        clear hb28
        (try go_wp2_with fail)
        refine HC.out.mono ?_
        rintro e u4 ⟨rfl, hb4⟩
        have HBu4 := hid (below_of HBu3.out HBu3.out.size hb4)
        have HQ := hid (HQ.out.below hb4)
        have m2' := HN28.out u4 hb4
        clear hb4 i3 i4 i5 n0 n1 n2
        obtain ⟨j0, j1, j2⟩ := HJ.out u4 HBu4.out
        have wq : IntKind.i64.wrap ((q : Int) + (o : Int)) = (q : Int) + (o : Int) := IntWalk.i64_in _ (by omega)
        have eqo : ((q : Int) + (o : Int) != (n : Int)) = false := by simp; omega
        have hqo1 : (q : Int) + (o : Int) = (n : Int) := by omega
        have HC := hid (HND.out u4 HBu4.out AO o cO O HQ.out HGo.out)
        have HD := hid (fun W hw (hq : SlQ W AO o cO O) => HNS.out W hw AO o cO O hq HGo.out)
        generalize (NeedlessGapG wi hi xs O mo).1 = kn at *
        generalize (NeedlessGapG wi hi xs O mo).2 = nc at *
        have HKq := hid hkc
        clear hkc
        go_wp2_with fail
        refine HC.out.mono ?_
        rintro e u5 ⟨rfl, hb5⟩
        have HBu5 := hid (below_of HBu4.out HBu4.out.size hb5)
        have HQ := hid (HQ.out.below hb5)
        clear hb5 j0 j1 j2 m2' eqo hqo1
        obtain ⟨j0, j1, j2⟩ := HJ.out u5 HBu5.out
        have HC := hid (HD.out u5 HBu5.out HQ.out)
        have ekn : (kn != kn) = false := by simp
        have enc : (nc != nc) = false := by simp
        go_wp2_with fail
        refine HC.out.mono ?_
        rintro e u6 ⟨rfl, hb6⟩
        have HBu6 := hid (below_of HBu5.out HBu5.out.size hb6)
        have HQ := hid (HQ.out.below hb6)
        clear hb6 j0 j1 j2
        rcases HOw.out.code with h0 | h0 | h0
        · subst h0
          obtain ⟨hlk, hll, hle⟩ := HOw.out.less rfl
          have HLk := hid hlk
          have HLl := hid hll
          have HLe := hid hle
          clear hlk hll hle enc
          go_wp2_with fail
          go_loopw [34, 35] (fun ov iv wr => ∃ (k t : Nat) (AT : Option Addr) (cT : Nat), k ≤ o ∧ iv = .int .i64 k ∧ ov = .slice AT t cT ∧ t = ((O.take k).filter (fun g => g != kn)).length ∧ t ≤ k ∧ wr.ownsRow u6.heap.size 2 1 (.slice AT t cT) t (((O.take k).filter (fun g => g != kn)).flatMap en1) ∧ Below u6.heap.size u6 wr) (fun _ iv _ => o - (intOf iv).toNat)
          case atStart => exact ⟨0, 0, _, _, Nat.zero_le _, rfl, rfl, by simp, Nat.le_refl _, by simpa using World.ownsRow_lit u6 #[] 0 (Nat.le_refl _) (by simp [maxLen]) (by simp), (Below.refl _ _).alloc (Nat.le_refl _) _⟩
          case round =>
            obtain ⟨k, t, AT, cT, hk, rfl, rfl, ht, htk, own, hbl⟩ := hrel
            have HT := hid ht
            have HOwn2 := hid own
            have HBl := hid hbl
            have hzl := hbl.size
            by_cases hlt : k < o
            · have hd : decide ((k : Int) < (o : Int)) = true := by rw [decide_eq_true_iff]; omega
              have hki : (k : Int) < (o : Int) := by omega
              have wk : IntKind.i64.wrap ((k : Int) + 1) = (k : Int) + 1 := IntWalk.i64_in _ (by have := HKq.out; omega)
              have hkl : k < O.length := by rw [HO.out]; exact hlt
              obtain ⟨b1, o1, rfl, hbb, hc1⟩ := en1_cells (HQ.out.sl.below hbl) (by omega)
              have ex : O[k]? = some O[k] := List.getElem?_eq_getElem hkl
              generalize O[k] = x at *
              have f0 : wr.cell? ⟨b1, o1 + k, none⟩ = some (.int .i64 x) := hc1 k x ex
              have hFs := filt_step (p := fun g => g != kn) ex
              clear hc1 own hbl ht ex hkl
              by_cases hx : x = kn
              · subst hx
                rw [if_neg (by simp), List.append_nil] at hFs
                have HFs := hid hFs
                clear hFs
                have exx : (x != x) = false := by simp
                go_wp2_with fail
                exact ⟨⟨k + 1, t, AT, cT, by omega, by go_num, rfl, by rw [HFs.out]; exact HT.out, by omega, by rw [HFs.out]; exact HOwn2.out, HBl.out⟩, by simp [intOf]; omega⟩
              · rw [if_pos (by simpa using hx)] at hFs
                have HFs := hid hFs
                clear hFs
                have exx : (x != kn) = true := by simpa using hx
                have HX := hid hx
                have f0' : ∀ oo, (wr.alloc oo).cell? ⟨b1, o1 + k, none⟩ = some (.int .i64 x) := fun oo => cell_on ((Below.refl wr.heap.size wr).alloc (Nat.le_refl _) _) f0
                clear hx
                go_wp2_with (at_builtin; refine app_one (w := wr) 29 2 (.int .i64 0) 1 8 Tryz.underlying29 (by kernel_rfl) rfl (by decide) u6.heap.size _ t _ HOwn2.out ?d1 (by decide) hzl [.int .i64 x] _ _ rfl rfl rfl _ rfl ?d3 rfl (by intro u hu; simp at hu; rcases hu with rfl; rfl) ?_)
                case d1 => have := HKq.out; omega
                case d3 => rfl
                intro A5' c5' w5' own5 hb5 hg5 hat5
                have HO5 := hid own5
                have HB5' := hid (HBl.out.trans hb5)
                clear own5 hb5 hg5 hat5 f0 f0'
                go_wp2_with fail
                exact ⟨⟨k + 1, t + 1, A5', c5', by omega, by go_num, rfl, by rw [HFs.out, List.length_append, ← HT.out]; rfl, by omega, by rw [HFs.out, List.flatMap_append]; exact HO5.out, HB5'.out⟩, by simp [intOf]; omega⟩
            · have hko : k = o := by omega
              subst hko
              have hd : decide ((k : Int) < (k : Int)) = false := by rw [decide_eq_false_iff_not]; omega
              have hfull : O.take k = O := List.take_of_length_le (by rw [HO.out]; exact Nat.le_refl _)
              rw [hfull] at own ht
              rw [ht] at own
              have hqT := SlQ.of own
              rw [← ht] at hqT
              have HBu7 := hid (below_of HBu6.out HBu6.out.size hbl)
              have HC := hid (HCG.out wr HBu7.out AT t cT _ hqT HLk.out)
              have hdl : decide (leftG xs (O.filter (fun g => g != kn)) ≤ mo) = true := decide_eq_true HLl.out
              rw [hdl] at HC
              have hte := HLe.out
              rw [← ht, HO.out] at hte
              have HTE := hid hte
              clear own hqT hdl hfull hbl HT hte
              obtain ⟨j0, j1, j2⟩ := HJ.out wr HBu7.out
              clear ht
              go_wp2_with fail
              refine HC.out.mono ?_
              rintro e u8 ⟨rfl, hb8⟩
              have HBu8 := hid (below_of HB3.out HB3.out.size (below_of HBu7.out HBu7.out.size hb8))
              have wt : IntKind.i64.wrap ((t : Int) + 1) = (t : Int) + 1 := IntWalk.i64_in _ (by have := HKq.out; omega)
              have ett : ((t : Int) + 1 == (k : Int)) = true := by have := HTE.out; simp; omega
              clear hb8 j0 j1 j2
              go_wp2_with fail
              go_ret
              exact ⟨rfl, HBu8.out⟩
        · subst h0
          go_wp2_with fail
          go_ret
          exact ⟨rfl, below_of HB3.out HB3.out.size HBu6.out⟩
        · subst h0
          go_wp2_with fail
          go_ret
          exact ⟨rfl, below_of HB3.out HB3.out.size HBu6.out⟩
      · have d6 : decide ((0 : Int) < (r : Int)) = true := by rw [decide_eq_true_iff]; omega
        have d7 : decide (0 < r) = true := by rw [decide_eq_true_iff]; omega
        have HC := hid (HN.out w13 HB13.out HS6.out)
        clear h0
        go_wp2_with fail
        refine HC.out.mono ?_
        rintro e w14 ⟨rfl, hb14⟩
        have HBV := hid (below_of HB13.out HB13.out.size hb14)
        clear hb14 j0 j1 j2
        obtain ⟨j0, j1, j2⟩ := HJ.out w14 HBV.out
        go_wp2_with fail
        clear d1 d2 d3 d4 d5 d6 d7
        obtain ⟨V, hV⟩ : ∃ V, V = w14 := ⟨_, rfl⟩
        subst hV
        clear hd1 efc etr
        refine (gapsD_S V a1 cs c1 (HA1.out.keep HBV.out) (by omega) wi hi A n cc (by omega)).mono ?_
        rintro e u1 ⟨O, AO, cO, rfl, hgo, hb1, own1⟩
        have HBu := hid (below_of HBV.out HBV.out.size hb1)
        have hgk : GapOk xs.length O := by rw [HN2.out]; exact hgo
        have hq := SlQ.of own1
        obtain ⟨o, ho⟩ : ∃ o, O.length = o := ⟨_, rfl⟩
        rw [ho] at hq
        rw [ho]
        have HQ := hid hq
        have HGo := hid hgk
        have HO := hid ho
        have hkc := HKc.out O hgk
        rw [ho, HN2.out] at hkc
        have HOw := hid (HOwn.out O hgk)
        have HP1 := hid (HPI.out u1 HBu.out AO o cO O hq hgk)
        have HP2 := hid (fun W hw (hq : SlQ W AO o cO O) => HPS.out W hw AO o cO O hq hgk)
        generalize keepL O 0 xs = K at *
        obtain ⟨q, hqK⟩ : ∃ q, K.length = q := ⟨_, rfl⟩
        rw [hqK] at HP1 HP2 hkc
        have HQK := hid hqK
        clear j0 j1 j2 hb1 own1 hgo hq hgk ho hqK
        obtain ⟨j0, j1, j2⟩ := HJ.out u1 HBu.out
        go_wp2_with fail
        refine HP1.out.mono ?_
        rintro e u2 ⟨A26, c26, rfl, hb2, hs26⟩
        obtain ⟨U2, hU2⟩ : ∃ U, U = u2.alloc (.cells #[.int .i8 (wi : Int), .int .i8 (hi : Int), .slice A26 q c26] 27) := ⟨_, rfl⟩
        have hbU : Below u2.heap.size u2 U2 := by rw [hU2]; exact (Below.refl _ _).alloc (Nat.le_refl _) _
        have m0 : U2.cell? ⟨u2.heap.size, 0, none⟩ = some (.int .i8 (wi : Int)) := by rw [hU2]; simp [go_sem]
        have m1 : U2.cell? ⟨u2.heap.size, 1, none⟩ = some (.int .i8 (hi : Int)) := by rw [hU2]; simp [go_sem]
        have m2 : U2.cell? ⟨u2.heap.size, 2, none⟩ = some (.slice A26 q c26) := by rw [hU2]; simp [go_sem]
        have HBm2 := hid (below_of HBu.out HBu.out.size hb2)
        have HBu2 := hid (below_of (below_of HBu.out HBu.out.size hb2) (below_of HBu.out HBu.out.size hb2).size hbU)
        have HQ := hid ((HQ.out.below hb2).below hbU)
        have HK26 := hid (hs26.below hbU)
        obtain ⟨b26, hb26⟩ : ∃ b26, u2.heap.size = b26 := ⟨_, rfl⟩
        rw [hb26] at m0 m1 m2
        clear j0 j1 j2 hb2 hbU hs26
        obtain ⟨j0, j1, j2⟩ := HJ.out u2 HBm2.out
        have i0 : ∀ oo, (u2.alloc oo).cell? ⟨b, 0, none⟩ = some (.int .i8 (wi : Int)) := fun oo => cell_on ((Below.refl u2.heap.size u2).alloc (Nat.le_refl _) _) j0
        have i1 : ∀ oo, (u2.alloc oo).cell? ⟨b, 1, none⟩ = some (.int .i8 (hi : Int)) := fun oo => cell_on ((Below.refl u2.heap.size u2).alloc (Nat.le_refl _) _) j1
        have i2 : ∀ oo, (u2.alloc oo).cell? ⟨b, 2, none⟩ = some (.slice A n cc) := fun oo => cell_on ((Below.refl u2.heap.size u2).alloc (Nat.le_refl _) _) j2
        have HM26 := hid (fun W (hw : Below U2.heap.size U2 W) => (⟨cell_on hw m0, cell_on hw m1, cell_on hw m2⟩ : W.cell? ⟨b26, 0, none⟩ = some (.int .i8 (wi : Int)) ∧ W.cell? ⟨b26, 1, none⟩ = some (.int .i8 (hi : Int)) ∧ W.cell? ⟨b26, 2, none⟩ = some (.slice A26 q c26)))
        have HC := hid (HP2.out U2 HBu2.out HQ.out)
        go_wp2_with fail
        rw [← hU2]
        clear hU2
        (try rw [hb26])
        clear hb26
        refine HC.out.mono ?_
        rintro e u3 ⟨A28, c28, rfl, hb3, hs28⟩
        obtain ⟨U3, hU3⟩ : ∃ U, U = u3.alloc (.cells #[.int .i8 (wi : Int), .int .i8 (hi : Int), .slice A28 q c28] 27) := ⟨_, rfl⟩
        have hbU : Below u3.heap.size u3 U3 := by rw [hU3]; exact (Below.refl _ _).alloc (Nat.le_refl _) _
        have n0 : U3.cell? ⟨u3.heap.size, 0, none⟩ = some (.int .i8 (wi : Int)) := by rw [hU3]; simp [go_sem]
        have n1 : U3.cell? ⟨u3.heap.size, 1, none⟩ = some (.int .i8 (hi : Int)) := by rw [hU3]; simp [go_sem]
        have n2 : U3.cell? ⟨u3.heap.size, 2, none⟩ = some (.slice A28 q c28) := by rw [hU3]; simp [go_sem]
        have HB23 := hid (below_of hb3 hb3.size hbU)
        obtain ⟨m0', m1', m2'⟩ := HM26.out u3 hb3
        have i3 : ∀ oo, (u3.alloc oo).cell? ⟨b26, 0, none⟩ = some (.int .i8 (wi : Int)) := fun oo => cell_on ((Below.refl u3.heap.size u3).alloc (Nat.le_refl _) _) m0'
        have i4 : ∀ oo, (u3.alloc oo).cell? ⟨b26, 1, none⟩ = some (.int .i8 (hi : Int)) := fun oo => cell_on ((Below.refl u3.heap.size u3).alloc (Nat.le_refl _) _) m1'
        have i5 : ∀ oo, (u3.alloc oo).cell? ⟨b26, 2, none⟩ = some (.slice A26 q c26) := fun oo => cell_on ((Below.refl u3.heap.size u3).alloc (Nat.le_refl _) _) m2'
        have HBu3 := hid (below_of HBu2.out HBu2.out.size HB23.out)
        have HQ := hid (HQ.out.below HB23.out)
        have HK26 := hid (HK26.out.below HB23.out)
        have HK28 := hid (hs28.below hbU)
        obtain ⟨b28, hb28⟩ : ∃ b28, u3.heap.size = b28 := ⟨_, rfl⟩
        rw [hb28] at n0 n1 n2
        clear j0 j1 j2 m0 m1 m2 m0' m1' m2' i0 i1 i2 hb3 hbU hs28
        have HC := hid (sameBd_S q q wi hi A26 A28 c26 c28 K U3 HK26.out HK28.out HQK.out.symm HQK.out.symm)
        have HN28 := hid (fun W (hw : Below U3.heap.size U3 W) => (cell_on hw n2 : W.cell? ⟨b28, 2, none⟩ = some (.slice A28 q c28)))
        go_wp2_with fail
        rw [← hU3]
        clear hU3
        (try rw [hb28])
        clear hb28
        (try go_wp2_with fail)
        refine HC.out.mono ?_
        rintro e u4 ⟨rfl, hb4⟩
        have HBu4 := hid (below_of HBu3.out HBu3.out.size hb4)
        have HQ := hid (HQ.out.below hb4)
        have m2' := HN28.out u4 hb4
        clear hb4 i3 i4 i5 n0 n1 n2
        obtain ⟨j0, j1, j2⟩ := HJ.out u4 HBu4.out
        have wq : IntKind.i64.wrap ((q : Int) + (o : Int)) = (q : Int) + (o : Int) := IntWalk.i64_in _ (by omega)
        have eqo : ((q : Int) + (o : Int) != (n : Int)) = false := by simp; omega
        have hqo1 : (q : Int) + (o : Int) = (n : Int) := by omega
        have HC := hid (HND.out u4 HBu4.out AO o cO O HQ.out HGo.out)
        have HD := hid (fun W hw (hq : SlQ W AO o cO O) => HNS.out W hw AO o cO O hq HGo.out)
        generalize (NeedlessGapG wi hi xs O mo).1 = kn at *
        generalize (NeedlessGapG wi hi xs O mo).2 = nc at *
        have HKq := hid hkc
        clear hkc
        go_wp2_with fail
        refine HC.out.mono ?_
        rintro e u5 ⟨rfl, hb5⟩
        have HBu5 := hid (below_of HBu4.out HBu4.out.size hb5)
        have HQ := hid (HQ.out.below hb5)
        clear hb5 j0 j1 j2 m2' eqo hqo1
        obtain ⟨j0, j1, j2⟩ := HJ.out u5 HBu5.out
        have HC := hid (HD.out u5 HBu5.out HQ.out)
        have ekn : (kn != kn) = false := by simp
        have enc : (nc != nc) = false := by simp
        go_wp2_with fail
        refine HC.out.mono ?_
        rintro e u6 ⟨rfl, hb6⟩
        have HBu6 := hid (below_of HBu5.out HBu5.out.size hb6)
        have HQ := hid (HQ.out.below hb6)
        clear hb6 j0 j1 j2
        rcases HOw.out.code with h0 | h0 | h0
        · subst h0
          obtain ⟨hlk, hll, hle⟩ := HOw.out.less rfl
          have HLk := hid hlk
          have HLl := hid hll
          have HLe := hid hle
          clear hlk hll hle enc
          go_wp2_with fail
          go_loopw [34, 35] (fun ov iv wr => ∃ (k t : Nat) (AT : Option Addr) (cT : Nat), k ≤ o ∧ iv = .int .i64 k ∧ ov = .slice AT t cT ∧ t = ((O.take k).filter (fun g => g != kn)).length ∧ t ≤ k ∧ wr.ownsRow u6.heap.size 2 1 (.slice AT t cT) t (((O.take k).filter (fun g => g != kn)).flatMap en1) ∧ Below u6.heap.size u6 wr) (fun _ iv _ => o - (intOf iv).toNat)
          case atStart => exact ⟨0, 0, _, _, Nat.zero_le _, rfl, rfl, by simp, Nat.le_refl _, by simpa using World.ownsRow_lit u6 #[] 0 (Nat.le_refl _) (by simp [maxLen]) (by simp), (Below.refl _ _).alloc (Nat.le_refl _) _⟩
          case round =>
            obtain ⟨k, t, AT, cT, hk, rfl, rfl, ht, htk, own, hbl⟩ := hrel
            have HT := hid ht
            have HOwn2 := hid own
            have HBl := hid hbl
            have hzl := hbl.size
            by_cases hlt : k < o
            · have hd : decide ((k : Int) < (o : Int)) = true := by rw [decide_eq_true_iff]; omega
              have hki : (k : Int) < (o : Int) := by omega
              have wk : IntKind.i64.wrap ((k : Int) + 1) = (k : Int) + 1 := IntWalk.i64_in _ (by have := HKq.out; omega)
              have hkl : k < O.length := by rw [HO.out]; exact hlt
              obtain ⟨b1, o1, rfl, hbb, hc1⟩ := en1_cells (HQ.out.sl.below hbl) (by omega)
              have ex : O[k]? = some O[k] := List.getElem?_eq_getElem hkl
              generalize O[k] = x at *
              have f0 : wr.cell? ⟨b1, o1 + k, none⟩ = some (.int .i64 x) := hc1 k x ex
              have hFs := filt_step (p := fun g => g != kn) ex
              clear hc1 own hbl ht ex hkl
              by_cases hx : x = kn
              · subst hx
                rw [if_neg (by simp), List.append_nil] at hFs
                have HFs := hid hFs
                clear hFs
                have exx : (x != x) = false := by simp
                go_wp2_with fail
                exact ⟨⟨k + 1, t, AT, cT, by omega, by go_num, rfl, by rw [HFs.out]; exact HT.out, by omega, by rw [HFs.out]; exact HOwn2.out, HBl.out⟩, by simp [intOf]; omega⟩
              · rw [if_pos (by simpa using hx)] at hFs
                have HFs := hid hFs
                clear hFs
                have exx : (x != kn) = true := by simpa using hx
                have HX := hid hx
                have f0' : ∀ oo, (wr.alloc oo).cell? ⟨b1, o1 + k, none⟩ = some (.int .i64 x) := fun oo => cell_on ((Below.refl wr.heap.size wr).alloc (Nat.le_refl _) _) f0
                clear hx
                go_wp2_with (at_builtin; refine app_one (w := wr) 29 2 (.int .i64 0) 1 8 Tryz.underlying29 (by kernel_rfl) rfl (by decide) u6.heap.size _ t _ HOwn2.out ?d1 (by decide) hzl [.int .i64 x] _ _ rfl rfl rfl _ rfl ?d3 rfl (by intro u hu; simp at hu; rcases hu with rfl; rfl) ?_)
                case d1 => have := HKq.out; omega
                case d3 => rfl
                intro A5' c5' w5' own5 hb5 hg5 hat5
                have HO5 := hid own5
                have HB5' := hid (HBl.out.trans hb5)
                clear own5 hb5 hg5 hat5 f0 f0'
                go_wp2_with fail
                exact ⟨⟨k + 1, t + 1, A5', c5', by omega, by go_num, rfl, by rw [HFs.out, List.length_append, ← HT.out]; rfl, by omega, by rw [HFs.out, List.flatMap_append]; exact HO5.out, HB5'.out⟩, by simp [intOf]; omega⟩
            · have hko : k = o := by omega
              subst hko
              have hd : decide ((k : Int) < (k : Int)) = false := by rw [decide_eq_false_iff_not]; omega
              have hfull : O.take k = O := List.take_of_length_le (by rw [HO.out]; exact Nat.le_refl _)
              rw [hfull] at own ht
              rw [ht] at own
              have hqT := SlQ.of own
              rw [← ht] at hqT
              have HBu7 := hid (below_of HBu6.out HBu6.out.size hbl)
              have HC := hid (HCG.out wr HBu7.out AT t cT _ hqT HLk.out)
              have hdl : decide (leftG xs (O.filter (fun g => g != kn)) ≤ mo) = true := decide_eq_true HLl.out
              rw [hdl] at HC
              have hte := HLe.out
              rw [← ht, HO.out] at hte
              have HTE := hid hte
              clear own hqT hdl hfull hbl HT hte
              obtain ⟨j0, j1, j2⟩ := HJ.out wr HBu7.out
              clear ht
              go_wp2_with fail
              refine HC.out.mono ?_
              rintro e u8 ⟨rfl, hb8⟩
              have HBu8 := hid (below_of HB3.out HB3.out.size (below_of HBu7.out HBu7.out.size hb8))
              have wt : IntKind.i64.wrap ((t : Int) + 1) = (t : Int) + 1 := IntWalk.i64_in _ (by have := HKq.out; omega)
              have ett : ((t : Int) + 1 == (k : Int)) = true := by have := HTE.out; simp; omega
              clear hb8 j0 j1 j2
              go_wp2_with fail
              go_ret
              exact ⟨rfl, HBu8.out⟩
        · subst h0
          go_wp2_with fail
          go_ret
          exact ⟨rfl, below_of HB3.out HB3.out.size HBu6.out⟩
        · subst h0
          go_wp2_with fail
          go_ret
          exact ⟨rfl, below_of HB3.out HB3.out.size HBu6.out⟩
    · have d1 : decide ((m : Int) ≤ 2) = false := by rw [decide_eq_false_iff_not]; omega
      have d2 : decide (m ≤ 2) = false := by rw [decide_eq_false_iff_not]; omega
      clear hm2
      go_wp2_with fail
      clear d1 d2
      obtain ⟨j0, j1, j2⟩ := HJ.out w12 HB12.out
      clear g0 g1 g2
      have HBV := hid HB12.out
      obtain ⟨V, hV⟩ : ∃ V, V = w12 := ⟨_, rfl⟩
      subst hV
      clear hd1 efc etr
      refine (gapsD_S V a1 cs c1 (HA1.out.keep HBV.out) (by omega) wi hi A n cc (by omega)).mono ?_
      rintro e u1 ⟨O, AO, cO, rfl, hgo, hb1, own1⟩
      have HBu := hid (below_of HBV.out HBV.out.size hb1)
      have hgk : GapOk xs.length O := by rw [HN2.out]; exact hgo
      have hq := SlQ.of own1
      obtain ⟨o, ho⟩ : ∃ o, O.length = o := ⟨_, rfl⟩
      rw [ho] at hq
      rw [ho]
      have HQ := hid hq
      have HGo := hid hgk
      have HO := hid ho
      have hkc := HKc.out O hgk
      rw [ho, HN2.out] at hkc
      have HOw := hid (HOwn.out O hgk)
      have HP1 := hid (HPI.out u1 HBu.out AO o cO O hq hgk)
      have HP2 := hid (fun W hw (hq : SlQ W AO o cO O) => HPS.out W hw AO o cO O hq hgk)
      generalize keepL O 0 xs = K at *
      obtain ⟨q, hqK⟩ : ∃ q, K.length = q := ⟨_, rfl⟩
      rw [hqK] at HP1 HP2 hkc
      have HQK := hid hqK
      clear j0 j1 j2 hb1 own1 hgo hq hgk ho hqK
      obtain ⟨j0, j1, j2⟩ := HJ.out u1 HBu.out
      go_wp2_with fail
      refine HP1.out.mono ?_
      rintro e u2 ⟨A26, c26, rfl, hb2, hs26⟩
      obtain ⟨U2, hU2⟩ : ∃ U, U = u2.alloc (.cells #[.int .i8 (wi : Int), .int .i8 (hi : Int), .slice A26 q c26] 27) := ⟨_, rfl⟩
      have hbU : Below u2.heap.size u2 U2 := by rw [hU2]; exact (Below.refl _ _).alloc (Nat.le_refl _) _
      have m0 : U2.cell? ⟨u2.heap.size, 0, none⟩ = some (.int .i8 (wi : Int)) := by rw [hU2]; simp [go_sem]
      have m1 : U2.cell? ⟨u2.heap.size, 1, none⟩ = some (.int .i8 (hi : Int)) := by rw [hU2]; simp [go_sem]
      have m2 : U2.cell? ⟨u2.heap.size, 2, none⟩ = some (.slice A26 q c26) := by rw [hU2]; simp [go_sem]
      have HBm2 := hid (below_of HBu.out HBu.out.size hb2)
      have HBu2 := hid (below_of (below_of HBu.out HBu.out.size hb2) (below_of HBu.out HBu.out.size hb2).size hbU)
      have HQ := hid ((HQ.out.below hb2).below hbU)
      have HK26 := hid (hs26.below hbU)
      obtain ⟨b26, hb26⟩ : ∃ b26, u2.heap.size = b26 := ⟨_, rfl⟩
      rw [hb26] at m0 m1 m2
      clear j0 j1 j2 hb2 hbU hs26
      obtain ⟨j0, j1, j2⟩ := HJ.out u2 HBm2.out
      have i0 : ∀ oo, (u2.alloc oo).cell? ⟨b, 0, none⟩ = some (.int .i8 (wi : Int)) := fun oo => cell_on ((Below.refl u2.heap.size u2).alloc (Nat.le_refl _) _) j0
      have i1 : ∀ oo, (u2.alloc oo).cell? ⟨b, 1, none⟩ = some (.int .i8 (hi : Int)) := fun oo => cell_on ((Below.refl u2.heap.size u2).alloc (Nat.le_refl _) _) j1
      have i2 : ∀ oo, (u2.alloc oo).cell? ⟨b, 2, none⟩ = some (.slice A n cc) := fun oo => cell_on ((Below.refl u2.heap.size u2).alloc (Nat.le_refl _) _) j2
      have HM26 := hid (fun W (hw : Below U2.heap.size U2 W) => (⟨cell_on hw m0, cell_on hw m1, cell_on hw m2⟩ : W.cell? ⟨b26, 0, none⟩ = some (.int .i8 (wi : Int)) ∧ W.cell? ⟨b26, 1, none⟩ = some (.int .i8 (hi : Int)) ∧ W.cell? ⟨b26, 2, none⟩ = some (.slice A26 q c26)))
      have HC := hid (HP2.out U2 HBu2.out HQ.out)
      go_wp2_with fail
      rw [← hU2]
      clear hU2
      (try rw [hb26])
      clear hb26
      refine HC.out.mono ?_
      rintro e u3 ⟨A28, c28, rfl, hb3, hs28⟩
      obtain ⟨U3, hU3⟩ : ∃ U, U = u3.alloc (.cells #[.int .i8 (wi : Int), .int .i8 (hi : Int), .slice A28 q c28] 27) := ⟨_, rfl⟩
      have hbU : Below u3.heap.size u3 U3 := by rw [hU3]; exact (Below.refl _ _).alloc (Nat.le_refl _) _
      have n0 : U3.cell? ⟨u3.heap.size, 0, none⟩ = some (.int .i8 (wi : Int)) := by rw [hU3]; simp [go_sem]
      have n1 : U3.cell? ⟨u3.heap.size, 1, none⟩ = some (.int .i8 (hi : Int)) := by rw [hU3]; simp [go_sem]
      have n2 : U3.cell? ⟨u3.heap.size, 2, none⟩ = some (.slice A28 q c28) := by rw [hU3]; simp [go_sem]
      have HB23 := hid (below_of hb3 hb3.size hbU)
      obtain ⟨m0', m1', m2'⟩ := HM26.out u3 hb3
      have i3 : ∀ oo, (u3.alloc oo).cell? ⟨b26, 0, none⟩ = some (.int .i8 (wi : Int)) := fun oo => cell_on ((Below.refl u3.heap.size u3).alloc (Nat.le_refl _) _) m0'
      have i4 : ∀ oo, (u3.alloc oo).cell? ⟨b26, 1, none⟩ = some (.int .i8 (hi : Int)) := fun oo => cell_on ((Below.refl u3.heap.size u3).alloc (Nat.le_refl _) _) m1'
      have i5 : ∀ oo, (u3.alloc oo).cell? ⟨b26, 2, none⟩ = some (.slice A26 q c26) := fun oo => cell_on ((Below.refl u3.heap.size u3).alloc (Nat.le_refl _) _) m2'
      have HBu3 := hid (below_of HBu2.out HBu2.out.size HB23.out)
      have HQ := hid (HQ.out.below HB23.out)
      have HK26 := hid (HK26.out.below HB23.out)
      have HK28 := hid (hs28.below hbU)
      obtain ⟨b28, hb28⟩ : ∃ b28, u3.heap.size = b28 := ⟨_, rfl⟩
      rw [hb28] at n0 n1 n2
      clear j0 j1 j2 m0 m1 m2 m0' m1' m2' i0 i1 i2 hb3 hbU hs28
      have HC := hid (sameBd_S q q wi hi A26 A28 c26 c28 K U3 HK26.out HK28.out HQK.out.symm HQK.out.symm)
      have HN28 := hid (fun W (hw : Below U3.heap.size U3 W) => (cell_on hw n2 : W.cell? ⟨b28, 2, none⟩ = some (.slice A28 q c28)))
      go_wp2_with fail
      rw [← hU3]
      clear hU3
      (try rw [hb28])
      clear hb28
      (try go_wp2_with fail)
      refine HC.out.mono ?_
      rintro e u4 ⟨rfl, hb4⟩
      have HBu4 := hid (below_of HBu3.out HBu3.out.size hb4)
      have HQ := hid (HQ.out.below hb4)
      have m2' := HN28.out u4 hb4
      clear hb4 i3 i4 i5 n0 n1 n2
      obtain ⟨j0, j1, j2⟩ := HJ.out u4 HBu4.out
      have wq : IntKind.i64.wrap ((q : Int) + (o : Int)) = (q : Int) + (o : Int) := IntWalk.i64_in _ (by omega)
      have eqo : ((q : Int) + (o : Int) != (n : Int)) = false := by simp; omega
      have hqo1 : (q : Int) + (o : Int) = (n : Int) := by omega
      have HC := hid (HND.out u4 HBu4.out AO o cO O HQ.out HGo.out)
      have HD := hid (fun W hw (hq : SlQ W AO o cO O) => HNS.out W hw AO o cO O hq HGo.out)
      generalize (NeedlessGapG wi hi xs O mo).1 = kn at *
      generalize (NeedlessGapG wi hi xs O mo).2 = nc at *
      have HKq := hid hkc
      clear hkc
      go_wp2_with fail
      refine HC.out.mono ?_
      rintro e u5 ⟨rfl, hb5⟩
      have HBu5 := hid (below_of HBu4.out HBu4.out.size hb5)
      have HQ := hid (HQ.out.below hb5)
      clear hb5 j0 j1 j2 m2' eqo hqo1
      obtain ⟨j0, j1, j2⟩ := HJ.out u5 HBu5.out
      have HC := hid (HD.out u5 HBu5.out HQ.out)
      have ekn : (kn != kn) = false := by simp
      have enc : (nc != nc) = false := by simp
      go_wp2_with fail
      refine HC.out.mono ?_
      rintro e u6 ⟨rfl, hb6⟩
      have HBu6 := hid (below_of HBu5.out HBu5.out.size hb6)
      have HQ := hid (HQ.out.below hb6)
      clear hb6 j0 j1 j2
      rcases HOw.out.code with h0 | h0 | h0
      · subst h0
        obtain ⟨hlk, hll, hle⟩ := HOw.out.less rfl
        have HLk := hid hlk
        have HLl := hid hll
        have HLe := hid hle
        clear hlk hll hle enc
        go_wp2_with fail
        go_loopw [34, 35] (fun ov iv wr => ∃ (k t : Nat) (AT : Option Addr) (cT : Nat), k ≤ o ∧ iv = .int .i64 k ∧ ov = .slice AT t cT ∧ t = ((O.take k).filter (fun g => g != kn)).length ∧ t ≤ k ∧ wr.ownsRow u6.heap.size 2 1 (.slice AT t cT) t (((O.take k).filter (fun g => g != kn)).flatMap en1) ∧ Below u6.heap.size u6 wr) (fun _ iv _ => o - (intOf iv).toNat)
        case atStart => exact ⟨0, 0, _, _, Nat.zero_le _, rfl, rfl, by simp, Nat.le_refl _, by simpa using World.ownsRow_lit u6 #[] 0 (Nat.le_refl _) (by simp [maxLen]) (by simp), (Below.refl _ _).alloc (Nat.le_refl _) _⟩
        case round =>
          obtain ⟨k, t, AT, cT, hk, rfl, rfl, ht, htk, own, hbl⟩ := hrel
          have HT := hid ht
          have HOwn2 := hid own
          have HBl := hid hbl
          have hzl := hbl.size
          by_cases hlt : k < o
          · have hd : decide ((k : Int) < (o : Int)) = true := by rw [decide_eq_true_iff]; omega
            have hki : (k : Int) < (o : Int) := by omega
            have wk : IntKind.i64.wrap ((k : Int) + 1) = (k : Int) + 1 := IntWalk.i64_in _ (by have := HKq.out; omega)
            have hkl : k < O.length := by rw [HO.out]; exact hlt
            obtain ⟨b1, o1, rfl, hbb, hc1⟩ := en1_cells (HQ.out.sl.below hbl) (by omega)
            have ex : O[k]? = some O[k] := List.getElem?_eq_getElem hkl
            generalize O[k] = x at *
            have f0 : wr.cell? ⟨b1, o1 + k, none⟩ = some (.int .i64 x) := hc1 k x ex
            have hFs := filt_step (p := fun g => g != kn) ex
            clear hc1 own hbl ht ex hkl
            by_cases hx : x = kn
            · subst hx
              rw [if_neg (by simp), List.append_nil] at hFs
              have HFs := hid hFs
              clear hFs
              have exx : (x != x) = false := by simp
              go_wp2_with fail
              exact ⟨⟨k + 1, t, AT, cT, by omega, by go_num, rfl, by rw [HFs.out]; exact HT.out, by omega, by rw [HFs.out]; exact HOwn2.out, HBl.out⟩, by simp [intOf]; omega⟩
            · rw [if_pos (by simpa using hx)] at hFs
              have HFs := hid hFs
              clear hFs
              have exx : (x != kn) = true := by simpa using hx
              have HX := hid hx
              have f0' : ∀ oo, (wr.alloc oo).cell? ⟨b1, o1 + k, none⟩ = some (.int .i64 x) := fun oo => cell_on ((Below.refl wr.heap.size wr).alloc (Nat.le_refl _) _) f0
              clear hx
              go_wp2_with (at_builtin; refine app_one (w := wr) 29 2 (.int .i64 0) 1 8 Tryz.underlying29 (by kernel_rfl) rfl (by decide) u6.heap.size _ t _ HOwn2.out ?d1 (by decide) hzl [.int .i64 x] _ _ rfl rfl rfl _ rfl ?d3 rfl (by intro u hu; simp at hu; rcases hu with rfl; rfl) ?_)
              case d1 => have := HKq.out; omega
              case d3 => rfl
              intro A5' c5' w5' own5 hb5 hg5 hat5
              have HO5 := hid own5
              have HB5' := hid (HBl.out.trans hb5)
              clear own5 hb5 hg5 hat5 f0 f0'
              go_wp2_with fail
              exact ⟨⟨k + 1, t + 1, A5', c5', by omega, by go_num, rfl, by rw [HFs.out, List.length_append, ← HT.out]; rfl, by omega, by rw [HFs.out, List.flatMap_append]; exact HO5.out, HB5'.out⟩, by simp [intOf]; omega⟩
          · have hko : k = o := by omega
            subst hko
            have hd : decide ((k : Int) < (k : Int)) = false := by rw [decide_eq_false_iff_not]; omega
            have hfull : O.take k = O := List.take_of_length_le (by rw [HO.out]; exact Nat.le_refl _)
            rw [hfull] at own ht
            rw [ht] at own
            have hqT := SlQ.of own
            rw [← ht] at hqT
            have HBu7 := hid (below_of HBu6.out HBu6.out.size hbl)
            have HC := hid (HCG.out wr HBu7.out AT t cT _ hqT HLk.out)
            have hdl : decide (leftG xs (O.filter (fun g => g != kn)) ≤ mo) = true := decide_eq_true HLl.out
            rw [hdl] at HC
            have hte := HLe.out
            rw [← ht, HO.out] at hte
            have HTE := hid hte
            clear own hqT hdl hfull hbl HT hte
            obtain ⟨j0, j1, j2⟩ := HJ.out wr HBu7.out
            clear ht
            go_wp2_with fail
            refine HC.out.mono ?_
            rintro e u8 ⟨rfl, hb8⟩
            have HBu8 := hid (below_of HB3.out HB3.out.size (below_of HBu7.out HBu7.out.size hb8))
            have wt : IntKind.i64.wrap ((t : Int) + 1) = (t : Int) + 1 := IntWalk.i64_in _ (by have := HKq.out; omega)
            have ett : ((t : Int) + 1 == (k : Int)) = true := by have := HTE.out; simp; omega
            clear hb8 j0 j1 j2
            go_wp2_with fail
            go_ret
            exact ⟨rfl, HBu8.out⟩
      · subst h0
        go_wp2_with fail
        go_ret
        exact ⟨rfl, below_of HB3.out HB3.out.size HBu6.out⟩
      · subst h0
        go_wp2_with fail
        go_ret
        exact ⟨rfl, below_of HB3.out HB3.out.size HBu6.out⟩
end Go.Proofs.YthhfndifcdiomaaGreat
