/-
  The reference's list of all orders of a few numbers.
  BestOrder: the program's and the reference's.
  BestOrder: the reference's.
  Conditions: at most five numbers. the board's and the ways' numbers are of their types; lengths.
-/
import Derived.Test.YtgkgklgeobbmlaaBestI
namespace Go.Proofs.Ytgkgklgeobbmlaa
open Go.RowKit
set_option linter.unusedSimpArgs false
set_option linter.unusedVariables false

theorem flatMap_single (vs : List Value) : vs.flatMap (fun v => [v]) = vs := by
  induction vs with
  | nil => rfl
  | cons v vs ih => rw [List.flatMap_cons, ih]; rfl
theorem own_cellsV {W : World} {base n c : Nat} {e : TypeId} {A : Option Addr} {vs : List Value} (h : W.ownsRow base e 1 (.slice A n c) n vs) (hl : vs.length = n) (hp : 0 < n) : ∃ g o, A = some ⟨g, o, none⟩ ∧ g < W.heap.size ∧ ∀ i v, vs[i]? = some v → W.cell? ⟨g, o + i, none⟩ = some v := by
  subst hl
  have h2 : W.ownsRow base e 1 (.slice A vs.length c) vs.length (vs.flatMap (fun v => [v])) := by rw [flatMap_single]; exact h
  obtain ⟨g, o, e1, hg, hc⟩ := (SlA.of_own (enc := fun (v : Value) => [v]) (n := 1) (fun _ => rfl) h2).cells hp
  exact ⟨g, o, e1, hg, fun i v hi => by have := hc i v hi 0 _ rfl; simpa using this⟩
/-- A slice of slices of numbers in memory of one's own; a row never lies in the slice's own block. -/
structure Rws (W : World) (base : Nat) (A : Option Addr) (c : Nat) (os : List (List Int)) (vs : List Value) : Prop where
  len : vs.length = os.length
  own : W.ownsRow base 52 1 (.slice A os.length c) os.length vs
  row : ∀ (i : Nat) (o : List Int), os[i]? = some o → ∃ (a : Option Addr) (cc : Nat), vs[i]? = some (.slice a o.length cc) ∧ W.ownsRow base 2 1 (.slice a o.length cc) o.length (o.flatMap en1) ∧ ∀ k, (Value.slice a o.length cc).ownBlock = some k → k < W.heap.size ∧ A.map (·.block) ≠ some k
theorem Rws.later {W W1 : World} {base c : Nat} {A : Option Addr} {os : List (List Int)} {vs : List Value} (h : Rws W base A c os vs) (hb : Below W.heap.size W W1) : Rws W1 base A c os vs :=
  ⟨h.len, own_step h.own hb, fun i o ho => by
    obtain ⟨a, cc, h1, h2, h3⟩ := h.row i o ho
    exact ⟨a, cc, h1, own_step h2 hb, fun k hk => ⟨Nat.lt_of_lt_of_le (h3 k hk).1 hb.size, (h3 k hk).2⟩⟩⟩
theorem Rws.low {W : World} {base b2 c : Nat} {A : Option Addr} {os : List (List Int)} {vs : List Value} (h : Rws W base A c os vs) (hb : b2 ≤ base) : Rws W b2 A c os vs :=
  ⟨h.len, own_low h.own hb, fun i o ho => by
    obtain ⟨a, cc, h1, h2, h3⟩ := h.row i o ho
    exact ⟨a, cc, h1, own_low h2 hb, h3⟩⟩
theorem Rws.push {W W5 W6 : World} {base c c6 cc n6 : Nat} {A A6 a : Option Addr} {os : List (List Int)} {vs : List Value} {o : List Int} (h : Rws W base A c os vs) (hbase : base ≤ W.heap.size) (hb : Below W.heap.size W W5)
    (own5 : W5.ownsRow W.heap.size 2 1 (.slice a o.length cc) o.length (o.flatMap en1)) (hn6 : n6 = os.length + 1)
    (own6 : W6.ownsRow base 52 1 (.slice A6 n6 c6) n6 (vs ++ [.slice a o.length cc])) (hg : W5.grownBy W6 (Value.slice A os.length c).ownBlock)
    (hat : (Value.slice A6 n6 c6).ownBlock = (Value.slice A os.length c).ownBlock ∨ ∀ k, (Value.slice A6 n6 c6).ownBlock = some k → W5.heap.size ≤ k) : Rws W6 base A6 c6 (os ++ [o]) (vs ++ [.slice a o.length cc]) := by
  subst hn6
  have hlen : (os ++ [o]).length = os.length + 1 := by rw [List.length_append]; rfl
  rw [ownBlock_slice, ownBlock_slice] at hat
  rw [ownBlock_slice] at hg
  have hA : ∀ k, A.map (·.block) = some k → k < W.heap.size := fun k hk => (h.own.lt k (by rw [ownBlock_slice]; exact hk)).2
  refine ⟨by rw [List.length_append, hlen, h.len]; rfl, by rw [hlen]; exact own6, fun i q hq => ?_⟩
  by_cases hi : i < os.length
  · rw [List.getElem?_append_left hi] at hq
    obtain ⟨a2, c2, h1, h2, h3⟩ := h.row i q hq
    refine ⟨a2, c2, by rw [List.getElem?_append_left (by rw [h.len]; exact hi)]; exact h1, (own_step h2 hb).kept hg ?_, fun k hk => ?_⟩
    · cases e : (Value.slice a2 q.length c2).ownBlock with
      | none => exact .inl rfl
      | some k => exact .inr fun e2 => (h3 k e).2 e2.symm
    · have h4 := h3 k hk
      refine ⟨Nat.lt_of_lt_of_le h4.1 (Nat.le_trans hb.size hg.size), ?_⟩
      rcases hat with e | e
      · rw [e]; exact h4.2
      · intro e2; have := e k e2; have := hb.size; omega
  · have hil : i = os.length := by
      have := (List.getElem?_eq_some_iff.1 hq).1
      rw [hlen] at this; omega
    subst hil
    rw [List.getElem?_append_right (Nat.le_refl _), Nat.sub_self] at hq
    injection hq with hq
    subst hq
    refine ⟨a, cc, by rw [List.getElem?_append_right (by rw [h.len]; exact Nat.le_refl _), h.len, Nat.sub_self]; rfl, ?_, fun k hk => ?_⟩
    · refine own_low ((own5.kept hg ?_)) hbase
      cases e : (Value.slice a o.length cc).ownBlock with
      | none => exact .inl rfl
      | some k => exact .inr fun e2 => by have := hA k e2.symm; have := (own5.lt k e).1; omega
    · have h4 := own5.lt k hk
      refine ⟨Nat.lt_of_lt_of_le h4.2 hg.size, ?_⟩
      rcases hat with e | e
      · rw [e]; intro e2; have := hA k e2; omega
      · intro e2; have := e k e2; omega
theorem rws_none (W : World) (base c : Nat) (hb : base ≤ W.heap.size) : Rws (W.alloc (.cells #[] 52)) base (some ⟨W.heap.size, 0, none⟩) 0 [] [] :=
  ⟨rfl, World.ownsRow_lit W #[] 0 hb (by simp [maxLen]) (by simp), fun i o ho => by cases ho⟩
theorem rws_start (W : World) : Rws ((W.alloc (.cells #[] 2)).alloc (.cells #[.slice (some ⟨W.heap.size, 0, none⟩) 0 0] 52)) W.heap.size (some ⟨W.heap.size + 1, 0, none⟩) 1 [[]] [.slice (some ⟨W.heap.size, 0, none⟩) 0 0] := by
  have h1 := World.ownsRow_lit (base := W.heap.size) (e := 2) (size := 1) W #[] 0 (Nat.le_refl _) (by simp [maxLen]) (by simp)
  have h2 := World.ownsRow_lit (base := W.heap.size) (e := 52) (size := 1) (W.alloc (.cells #[] 2)) #[.slice (some ⟨W.heap.size, 0, none⟩) 0 0] 1 (by simp) (by simp [maxLen]) (by simp)
  refine ⟨rfl, by simpa using h2, fun i o ho => ?_⟩
  have hi : i = 0 := by have := (List.getElem?_eq_some_iff.1 ho).1; simpa using this
  subst hi
  injection ho with ho
  subst ho
  refine ⟨_, _, rfl, own_step h1 ((Below.refl _ _).alloc (Nat.le_refl _) _), fun k hk => ?_⟩
  rw [ownBlock_slice] at hk
  injection hk with hk
  subst hk
  exact ⟨by simp; omega, by simp⟩
set_option maxRecDepth 100000 in
set_option maxHeartbeats 4000000 in
theorem orders_S5 (n : Nat) (w : World) (hn : n ≤ 5) :
    Calls Try.prog 45 #[.int .i64 n] w fun e w' => ∃ A c vs, e = .returned (.slice A (levG n n [[]]).length c) ∧ Below w.heap.size w w' ∧ Rws w' w.heap.size A c (levG n n [[]]) vs := by
  go_enter Try.func45, Try.ntmps45
  go_wp2_with fail
  go_loopw [3, 4] (fun ov kv wr => ∃ (k : Nat) (A : Option Addr) (c : Nat) (vs : List Value), k ≤ n ∧ kv = .int .i64 k ∧ ov = .slice A (levG n k [[]]).length c ∧ Rws wr w.heap.size A c (levG n k [[]]) vs ∧ Below w.heap.size w wr) (fun _ kv _ => n - (intOf kv).toNat)
  case atStart => exact ⟨0, _, _, _, Nat.zero_le _, rfl, rfl, rws_start w, ((Below.refl _ _).alloc (Nat.le_refl _) _).alloc (by simp) _⟩
  case round =>
    obtain ⟨k, A, c, vs, hk, rfl, rfl, hR, hbl⟩ := hrel
    obtain ⟨v1, hv1⟩ : ∃ V, V = wr := ⟨_, rfl⟩
    subst hv1
    have HR := hid hR
    have HB := hid hbl
    have hz := hbl.size
    by_cases hlt : k < n
    · have hd : decide ((k : Int) < (n : Int)) = true := by rw [decide_eq_true_iff]; omega
      have wk : IntKind.i64.wrap ((k : Int) + 1) = (k : Int) + 1 := IntWalk.i64_in _ (by omega)
      have hT : (levG n k [[]]).flatMap (extG n) = levG n (k + 1) [[]] := (lev_succ n k [[]]).symm
      have hTl := lev_small (k := k + 1) hn (by omega)
      have hol := lev_small (k := k) hn (by omega)
      have HOK := hid (lev_ok (n := n) k (k := 0) (xs := [[]]) (fun q hq => by rw [List.mem_singleton.1 hq]; exact ⟨rfl, fun i hi => by cases hi⟩))
      obtain ⟨os, hos⟩ : ∃ os, levG n k [[]] = os := ⟨_, rfl⟩
      obtain ⟨T, hTT⟩ : ∃ T, levG n (k + 1) [[]] = T := ⟨_, rfl⟩
      rw [hos] at HR HOK hT hol ⊢
      rw [hTT] at hT hTl
      have HT := hid hT
      have HTT := hid hTT
      clear hR hbl hos hTT hT
      go_wp2_with fail
      go_loopw [5, 6] (fun nv iv w2 => ∃ (i : Nat) (A2 : Option Addr) (c2 : Nat) (ac : List (List Int)) (v2 : List Value), i ≤ os.length ∧ iv = .int .i64 i ∧ nv = .slice A2 ac.length c2 ∧ Rws w2 v1.heap.size A2 c2 ac v2 ∧ Below v1.heap.size v1 w2 ∧ ac ++ (os.drop i).flatMap (extG n) = T) (fun _ iv _ => os.length - (intOf iv).toNat)
      case atStart => exact ⟨0, _, _, [], [], Nat.zero_le _, rfl, rfl, rws_none v1 _ 0 (Nat.le_refl _), (Below.refl _ _).alloc (Nat.le_refl _) _, HT.out⟩
      case round =>
        obtain ⟨i, A2, c2, ac, v2, hi, rfl, rfl, hR2, hb2, hac⟩ := hrel
        have HR2 := hid hR2
        have HB2 := hid hb2
        have HAC := hid hac
        have hz2 := hb2.size
        clear hR2 hb2 hac
        by_cases hil : i < os.length
        · have hdi : decide ((i : Int) < (os.length : Int)) = true := by rw [decide_eq_true_iff]; omega
          have wi : IntKind.i64.wrap ((i : Int) + 1) = (i : Int) + 1 := IntWalk.i64_in _ (by omega)
          obtain ⟨o, ho⟩ : ∃ o, os[i]? = some o := ⟨_, List.getElem?_eq_getElem hil⟩
          have hoo := HOK.out o (List.mem_of_getElem? ho)
          have hom : o.length ≤ 5 := by rw [hoo.1]; omega
          obtain ⟨a, cc, hv, hrow, -⟩ := HR.out.row i o ho
          obtain ⟨g, go, rfl, hg, hgc⟩ := own_cellsV HR.out.own HR.out.len (by omega)
          have hcw := hgc i _ hv
          have HCW := hid (fun W (hb : Below v1.heap.size v1 W) => (⟨cell_on hb hcw, en1_row (own_step hrow hb)⟩ : W.cell? ⟨g, go + i, none⟩ = some (.slice a o.length cc) ∧ SlA en1 1 W a o))
          have HNC := hid (own_nilcase hrow)
          have HAC2 := hid (show ac ++ (extF n o 0 ++ (os.drop (i + 1)).flatMap (extG n)) = T by
            rw [← HAC.out, List.drop_eq_getElem_cons hil, List.flatMap_cons]
            have : os[i] = o := by rw [List.getElem?_eq_getElem hil] at ho; injection ho
            rw [this]; rfl)
          clear hoo hv hrow hgc hcw ho
          go_wp2_with fail
          go_loopw [5, 7] (fun nv xv w3 => ∃ (x : Nat) (A3 : Option Addr) (c3 : Nat) (ad : List (List Int)) (v3 : List Value), x ≤ n ∧ xv = .int .i64 x ∧ nv = .slice A3 ad.length c3 ∧ Rws w3 v1.heap.size A3 c3 ad v3 ∧ Below v1.heap.size v1 w3 ∧ ad ++ (extF n o x ++ (os.drop (i + 1)).flatMap (extG n)) = T) (fun _ xv _ => n - (intOf xv).toNat)
          case atStart => exact ⟨0, _, _, ac, v2, Nat.zero_le _, rfl, rfl, HR2.out, HB2.out, HAC2.out⟩
          case round =>
            obtain ⟨x, A3, c3, ad, v3, hx, rfl, rfl, hR3, hb3, had⟩ := hrel
            obtain ⟨w3, hw3⟩ : ∃ V, V = wr := ⟨_, rfl⟩
            subst hw3
            have HR3 := hid hR3
            have HB3 := hid hb3
            have HAD := hid had
            have hz3 := hb3.size
            have hadl : ad.length ≤ 3125 := by
              have := congrArg List.length had
              rw [List.length_append] at this
              omega
            obtain ⟨hcell, hsl⟩ := HCW.out w3 hb3
            clear hR3 hb3 had
            by_cases hxn : x < n
            · have hdx : decide ((x : Int) < (n : Int)) = true := by rw [decide_eq_true_iff]; omega
              have wx : IntKind.i64.wrap ((x : Int) + 1) = (x : Int) + 1 := IntWalk.i64_in _ (by omega)
              have HSL := hid hsl
              clear hsl
              go_wp2_with fail
              go_loopw [8, 9] (fun bv jv w4 => ∃ j : Nat, j ≤ o.length ∧ jv = .int .i64 j ∧ bv = .bool ((o.take j).any (isN (x : Int))) ∧ w4 = w3) (fun _ jv _ => o.length - (intOf jv).toNat)
              case atStart => exact ⟨0, Nat.zero_le _, rfl, rfl, rfl⟩
              case round =>
                obtain ⟨j, hj, rfl, rfl, hw4⟩ := hrel
                have hw5 : w3 = wr := hw4.symm
                subst hw5
                clear hw4
                by_cases hjl : j < o.length
                · have hdj : decide ((j : Int) < (o.length : Int)) = true := by rw [decide_eq_true_iff]; omega
                  have wj : IntKind.i64.wrap ((j : Int) + 1) = (j : Int) + 1 := IntWalk.i64_in _ (by omega)
                  obtain ⟨b, bo, rfl, hb, hbc⟩ := en1_cells HSL.out (by omega)
                  have hc2 := hbc j _ (List.getElem?_eq_getElem hjl)
                  have htk : (o.take (j + 1)).any (isN (x : Int)) = ((o.take j).any (isN (x : Int)) || isN (x : Int) o[j]) := by
                    rw [List.take_add_one, List.getElem?_eq_getElem hjl, List.any_append]
                    simp
                  obtain ⟨z, hzz⟩ : ∃ z, o[j] = z := ⟨_, rfl⟩
                  rw [hzz] at hc2 htk
                  obtain ⟨u, hu⟩ : ∃ u, (o.take j).any (isN (x : Int)) = u := ⟨_, rfl⟩
                  rw [hu] at htk ⊢
                  have HTK := hid htk
                  clear hbc hzz htk hu
                  cases u with
                  | true =>
                    go_wp2_with fail
                    exact ⟨⟨j + 1, by omega, by go_num, by rw [HTK.out]; rfl, by first | rfl | trivial⟩, by simp [intOf]; omega⟩
                  | false =>
                    go_wp2_with fail
                    exact ⟨⟨j + 1, by omega, by go_num, by rw [HTK.out, Bool.false_or]; rfl, by first | rfl | trivial⟩, by simp [intOf]; omega⟩
                · obtain rfl : j = o.length := by omega
                  have hdj : decide ((o.length : Int) < (o.length : Int)) = false := by rw [decide_eq_false_iff_not]; omega
                  rw [List.take_length]
                  obtain ⟨u, hu⟩ : ∃ u, o.any (isN (x : Int)) = u := ⟨_, rfl⟩
                  rw [hu]
                  have HU := hid hu
                  clear hu
                  cases u with
                  | true =>
                    go_wp2_with fail
                    exact ⟨⟨x + 1, A3, c3, ad, v3, by omega, by go_num, rfl, HR3.out, HB3.out, by rw [← HAD.out, extF_old hxn HU.out]⟩, by simp [intOf]; omega⟩
                  | false =>
                    obtain ⟨m, hm⟩ : ∃ m, o.length = m := ⟨_, rfl⟩
                    have HM := hid hm
                    rw [hm] at hcell hom ⊢
                    have HF3 := hid (fun ob => (HSL.out.below ((Below.refl w3.heap.size w3).alloc (Nat.le_refl _) ob)).flat en1_length)
                    have HFL : Hid ((o ++ [(x : Int)]).flatMap en1 = o.flatMap en1 ++ [.int .i64 (x : Int)]) := hid (by rw [List.flatMap_append]; rfl)
                    have HLN := hid (show (o ++ [(x : Int)]).length = m + 1 by rw [List.length_append, List.length_singleton, ← HM.out])
                    have hcA : ∀ ob, (w3.alloc ob).cell? ⟨g, go + i, none⟩ = some (.slice a m cc) := fun ob => cell_on ((Below.refl _ _).alloc (Nat.le_refl _) ob) hcell
                    clear hm hdj
                    go_wp2_with (at_builtin; refine app_many rfl _ _ 52 rfl w3.heap.size 2 (.int .i64 0) 1 8 Try.underlying52 (by kernel_rfl) rfl (by decide) _ 0 [] rfl (World.ownsRow_lit w3 #[] 0 (Nat.le_refl _) (by simp [maxLen]) (by simp)) a m cc (o.flatMap en1) rfl ?c1 ?c6 ?c2 ?c3 ?c4 (by decide) ?c5 ?_)
                    case c1 => rw [flatMap_len en1_length, ← HM.out]
                    case c6 => intro hm0; exact HF3.out _ (by rw [HM.out]; exact hm0)
                    case c2 => exact oneCell_flat (fun p u hu => by simp [en1] at hu; subst hu; rfl) _
                    case c3 => exact fun _ => HNC.out
                    case c4 => omega
                    case c5 => simp
                    intro v5 w5 own5 hg5 hat5
                    try simp only [Nat.zero_add, List.nil_append] at own5
                    obtain ⟨A5, c5, rfl⟩ := own_slice own5
                    have hb5 : Below w3.heap.size w3 w5 := ((Below.refl _ _).alloc (Nat.le_refl _) _).grown hg5 (by simp) (by simp [Value.ownBlock])
                    have HB5 := hid hb5
                    have HO5 := hid own5
                    have hz5 := hb5.size
                    clear own5 hg5 hat5 hb5
                    go_wp2_with (at_builtin; refine app_one (w := w5) 52 2 (.int .i64 0) 1 8 Try.underlying52 (by kernel_rfl) rfl (by decide) w3.heap.size _ m _ HO5.out ?d1 (by decide) hz5 [.int .i64 (x : Int)] _ _ rfl rfl rfl _ rfl ?d3 rfl (by intro u hu; simp at hu; rcases hu with rfl; rfl) ?_)
                    case d1 => omega
                    case d3 => rfl
                    intro A6 c6 w6 own6 hb6 hg6 hat6
                    have hb6' := HB5.out.trans hb6
                    have HB6 := hid hb6'
                    have hz6 := hb6'.size
                    rw [← HFL.out] at own6
                    have HO6 := hid own6
                    clear own6 hb6 hg6 hat6 hb6'
                    go_wp2_with (at_builtin; refine app_one (w := w6) 78 52 (.slice none 0 0) 1 24 Try.underlying78 (by kernel_rfl) rfl (by decide) v1.heap.size _ ad.length _ (own_step HR3.out.own HB6.out) ?e1 (by decide) (Nat.le_trans hz3 hz6) [.slice A6 (m + 1) c6] _ _ rfl rfl rfl _ rfl ?e3 rfl (by intro u hu; simp at hu; rcases hu with rfl; rfl) ?_)
                    case e1 => omega
                    case e3 => rfl
                    intro A7 c7 w7 own7 hb7 hg7 hat7
                    have HR7 := hid (Rws.push (o := o ++ [(x : Int)]) (n6 := ad.length + 1) HR3.out hz3 HB6.out (by rw [HLN.out]; exact HO6.out) rfl (by rw [HLN.out]; exact own7) hg7 hat7)
                    have HB7 := hid ((HB3.out.trans (HB6.out.mono hz3)).trans hb7)
                    clear own7 hb7 hg7 hat7
                    go_wp2_with fail
                    exact ⟨⟨x + 1, A7, c7, ad ++ [o ++ [(x : Int)]], _, by omega, by go_num, by rw [List.length_append]; rfl, HR7.out, HB7.out, by rw [← HAD.out, extF_new hxn HU.out, List.append_assoc]; rfl⟩, by simp [intOf]; omega⟩
            · obtain rfl : x = n := by omega
              have hdx : decide ((x : Int) < (x : Int)) = false := by rw [decide_eq_false_iff_not]; omega
              go_wp2_with fail
              exact ⟨⟨i + 1, A3, c3, ad, v3, by omega, by go_num, rfl, HR3.out, HB3.out, by rw [← HAD.out, extF_end]; rfl⟩, by simp [intOf]; omega⟩
        · obtain rfl : i = os.length := by omega
          have hdi : decide ((os.length : Int) < (os.length : Int)) = false := by rw [decide_eq_false_iff_not]; omega
          have hacT : ac = T := by have := HAC.out; rw [List.drop_length, List.flatMap_nil, List.append_nil] at this; exact this
          have HACT := hid hacT
          clear hacT
          go_wp2_with fail
          exact ⟨⟨k + 1, A2, c2, v2, by omega, by go_num, by rw [HTT.out, HACT.out], by rw [HTT.out, ← HACT.out]; exact HR2.out.low hz, HB.out.trans (HB2.out.mono hz)⟩, by simp [intOf]; omega⟩
    · obtain rfl : k = n := by omega
      have hd : decide ((k : Int) < (k : Int)) = false := by rw [decide_eq_false_iff_not]; omega
      clear hR hbl
      go_wp2_with fail
      go_ret
      exact ⟨A, c, vs, rfl, HB.out, HR.out⟩
def fstG (wi hi : Int) (xs : List Pc) (ws : List Wy) : List Int × Int := (levG ws.length ws.length [[]]).foldl (bstG wi hi xs ws) ([], 0)
theorem best_eq (wi hi : Int) (xs : List Pc) (ws : List Wy) : BestOrderG wi hi xs ws = if bdOk wi hi xs = true then (if 1 ≤ ws.length ∧ ws.length ≤ 5 then (if ws.all (wayB wi hi xs) = true then (if (fstG wi hi xs ws).1 = [] then ([], 0, 6) else ((fstG wi hi xs ws).1, (fstG wi hi xs ws).2, 0)) else ([], 0, 1)) else ([], 0, 2)) else ([], 0, 1) := rfl
theorem any_all {α : Type} (P : α → Bool) (xs : List α) : (xs.any fun p => !P p) = !(xs.all P) := by
  induction xs with
  | nil => rfl
  | cons x xs ih => rw [List.any_cons, List.all_cons, ih, Bool.not_and]
theorem inB_iff5 {n low high : Int} : inB n low high = true ↔ low ≤ n ∧ n ≤ high := by
  unfold inB
  simp
theorem len_in {n : Nat} : inB (n : Int) 1 5 = decide (1 ≤ n ∧ n ≤ 5) := by
  cases h : inB (n : Int) 1 5 with
  | true =>
    have := inB_iff5.1 h
    exact (decide_eq_true (by omega)).symm
  | false =>
    refine (decide_eq_false fun h2 => ?_).symm
    rw [inB_iff5.2 (by omega)] at h
    cases h
theorem sxb_new (w : World) (W : World) (hW : W = (w.alloc (.cells #[.slice none 0 0] 52)).alloc (.cells #[.int .i64 0] 2)) : SxB w W ([], 0) := by
  subst hW
  refine ⟨((Below.refl _ _).alloc (Nat.le_refl _) _).alloc (by simp) _, by simp, ⟨none, 0, by simp [go_sem], World.ownsRow_nil _ _ _ _, fun _ => ⟨rfl, rfl⟩⟩, by simp [go_sem], fun i j hi => ?_⟩
  rcases (by omega : i = 0 ∨ i = 1) with rfl | rfl <;> simp [go_sem]
set_option maxRecDepth 100000 in
set_option maxHeartbeats 8000000 in
theorem BestOrder_I (w : World) (wi hi : Int) (wl : -128 ≤ wi) (wu : wi ≤ 127) (hl : -128 ≤ hi) (hu : hi ≤ 127) (a : Option Addr) (c : Nat) (xs : List Pc) (h : SlA Pc.enc 5 w a xs) (hnc : a = none → c = 0) (ok : ∀ p ∈ xs, p.Ok) (hs : xs.length ≤ 1048576) (al : Option Addr) (cl : Nat) (ws : List Wy) (hw : SlA Wy.enc 6 w al ws) (hnc2 : al = none → cl = 0) (okw : ∀ p ∈ ws, p.Ok) (hs2 : ws.length ≤ 1048576) :
    Calls Try.prog 22 #[.agg #[.int .i8 wi, .int .i8 hi, .slice a xs.length c], .slice al ws.length cl] w (ResS2 en1 1 2 w (BestOrderG wi hi xs ws).1 (BestOrderG wi hi xs ws).2.1 (BestOrderG wi hi xs ws).2.2) := by
  obtain ⟨W1, hW1⟩ : ∃ W, W = w.alloc (.cells #[.int .i8 wi, .int .i8 hi, .slice a xs.length c] 32) := ⟨_, rfl⟩
  have B1 : Below w.heap.size w W1 := by rw [hW1]; exact (Below.refl _ _).alloc (Nat.le_refl _) _
  have bd1 : BdA W1 w.heap.size wi hi a xs.length c := by rw [hW1]; exact bd_box _ _ _ _ _ _ _
  obtain ⟨W2, hW2⟩ : ∃ W, W = W1.alloc (.cells #[.slice al ws.length cl] 47) := ⟨_, rfl⟩
  have B2 : Below W1.heap.size W1 W2 := by rw [hW2]; exact (Below.refl _ _).alloc (Nat.le_refl _) _
  have hs1 : W1.heap.size = w.heap.size + 1 := by rw [hW1]; simp
  have l2 : W2.cell? ⟨w.heap.size + 1, 0, none⟩ = some (.slice al ws.length cl) := by rw [← hs1, hW2]; simp [go_sem]
  have hb2 := below_of B1 B1.size B2
  have HB2 := hid hb2
  have hbd2 := bd1.below B2 bd1.lt
  have HK := hid (fun W (hW : Below W2.heap.size W2 W) => (⟨cell_on hW l2, hbd2.below hW hbd2.lt, (h.below hb2).below hW, (hw.below hb2).below hW⟩ : W.cell? ⟨w.heap.size + 1, 0, none⟩ = some (.slice al ws.length cl) ∧ BdA W w.heap.size wi hi a xs.length c ∧ SlA Pc.enc 5 W a xs ∧ SlA Wy.enc 6 W al ws))
  rw [hW1] at hW2
  have HG := hid (best_eq wi hi xs ws)
  have HV := hid (ValidBoard_I wi hi a c xs W2 ⟨wl, wu, hl, hu⟩ (h.below hb2) ok)
  have HIn := hid (@len_in ws.length)
  have HAny := hid (fun W (hW : Below W2.heap.size W2 W) (hbo : bdOk wi hi xs = true) => anyF_W 48 (enters_of Try.func48 (by kernel_rfl) rfl) #[.pointer (some ⟨w.heap.size, 0, none⟩)] (fun p => !wayB wi hi xs p) al cl ws.length ws rfl W (HK.out W hW).2.2.2 (fun p hp V hV => bad1_I w.heap.size wi hi ⟨wl, wu, hl, hu⟩ a c xs ok hbo p (okw p hp) V ((HK.out W hW).2.1.below hV (HK.out W hW).2.1.lt) ((HK.out W hW).2.2.1.below hV)))
  rw [any_all] at HAny
  have HF := hid (show fstG wi hi xs ws = (levG ws.length ws.length [[]]).foldl (bstG wi hi xs ws) ([], 0) from rfl)
  have HLo := hid (fun (Wb : World) (hWb : Below W2.heap.size W2 Wb) (hbo : bdOk wi hi xs = true) (h1 : 1 ≤ ws.length) (h5 : ws.length ≤ 5) =>
    orders_I Wb ws.length h5 (bstG wi hi xs ws) (.pointer (some ⟨w.heap.size + 1, 0, none⟩)) (.pointer (some ⟨w.heap.size, 0, none⟩)) (.pointer (some ⟨Wb.heap.size, 0, none⟩)) (.pointer (some ⟨Wb.heap.size + 1, 0, none⟩))
      (fun st o hB hO => bst_ok hbo hB hO)
      (fun W st o A cA hS hB hO own m hm => best2_I Wb (w.heap.size + 1) w.heap.size wi hi wl wu hl hu a c xs hs hnc ok hbo al cl ws.length ws rfl h5 okw (fun V hV => HK.out V (below_of hWb hWb.size hV)) W st o A cA hS hB hO (by omega) own m hm)
      ws.length)
  obtain ⟨v, hv⟩ : ∃ v, bdOk wi hi xs = v := ⟨_, rfl⟩
  rw [hv] at HV HG
  have HVv := hid hv
  generalize BestOrderG wi hi xs ws = R at *
  obtain ⟨u, hu⟩ : ∃ u, ws.all (wayB wi hi xs) = u := ⟨_, rfl⟩
  rw [hu] at HG HAny
  obtain ⟨n, hn⟩ : ∃ n, ws.length = n := ⟨_, rfl⟩
  rw [hn] at HG HAny HK HIn HLo HF hW2 hs2 l2
  rw [hn]
  obtain ⟨g0, g1, g2⟩ : W2.cell? ⟨w.heap.size, 0, none⟩ = some (.int .i8 wi) ∧ W2.cell? ⟨w.heap.size, 1, none⟩ = some (.int .i8 hi) ∧ W2.cell? ⟨w.heap.size, 2, none⟩ = some (.slice a xs.length c) := ⟨hbd2.c0, hbd2.c1, hbd2.c2⟩
  have q52 : ∀ (w : World) (a : Option Addr) (n c n' c' : Nat), (binOp .eql 52 (.slice a n c) (.slice none n' c')).run Try.prog w = .ok (.bool a.isNone) w := fun w a n c n' c' => Lib.run_eql_slice_nil w _ _ a n c n' c' Try.underlying52
  clear h hw okw ok B1 B2 bd1 hb2 hbd2 hW1 hv hn hs1 hu
  go_enter Try.func22, Try.ntmps22
  go_upto_region 1 with fail
  rw [← hW2]
  clear hW2
  go_wp2_with fail
  refine HV.out.mono ?_
  rintro e w4 ⟨rfl, hb4⟩
  have HC4 := hid hb4
  have HB4 := hid (below_of HB2.out HB2.out.size hb4)
  obtain ⟨l4, ⟨-, p0, p1, p2⟩, -, -⟩ := HK.out w4 hb4
  clear hb4 g0 g1 g2 l2
  cases v with
  | false =>
    have HGG := hid (show R = ([], 0, 1) by rw [HG.out]; rfl)
    go_wp2_with fail
    refine bodyPost_ret (v := .tuple #[.slice none 0 0, .int .i64 0, .int .i64 1]) (by simp [results, Try.results22, go_sem]) rfl ?_
    rw [HGG.out]
    exact ResS2.nil HB4.out
  | true =>
    cases hi5 : inB (n : Int) 1 5 with
    | false =>
      have hn5 : ¬ (1 ≤ n ∧ n ≤ 5) := by rw [HIn.out, decide_eq_false_iff_not] at hi5; exact hi5
      have HGG := hid (show R = ([], 0, 2) by rw [HG.out, if_pos rfl, if_neg hn5])
      clear hn5
      go_wp2_with (go_at_call 46; refine (in_I _ _ _ _).mono ?_; rintro e w' ⟨rfl, rfl⟩)
      refine bodyPost_ret (v := .tuple #[.slice none 0 0, .int .i64 0, .int .i64 2]) (by simp [results, Try.results22, go_sem]) rfl ?_
      rw [HGG.out]
      exact ResS2.nil HB4.out
    | true =>
      have hn5 : 1 ≤ n ∧ n ≤ 5 := by rw [HIn.out, decide_eq_true_iff] at hi5; exact hi5
      have HA4 := hid (HAny.out w4 HC4.out HVv.out)
      have HN5 := hid hn5
      clear hn5
      go_wp2_with (go_at_call 46; refine (in_I _ _ _ _).mono ?_; rintro e w' ⟨rfl, rfl⟩)
      refine HA4.out.mono ?_
      rintro e w5 ⟨rfl, hb5⟩
      have HC5 := hid (below_of HC4.out HC4.out.size hb5)
      have HB5 := hid (below_of HB4.out HB4.out.size hb5)
      obtain ⟨l5, -, -, -⟩ := HK.out w5 HC5.out
      clear hb5 p0 p1 p2 l4 hi5
      cases u with
      | false =>
        have HGG := hid (show R = ([], 0, 1) by have h9 := HG.out; simp only [eq_self_iff_true, Bool.false_eq_true, if_true, if_false, if_pos HN5.out] at h9; exact h9)
        go_wp2_with fail
        refine bodyPost_ret (v := .tuple #[.slice none 0 0, .int .i64 0, .int .i64 1]) (by simp [results, Try.results22, go_sem]) rfl ?_
        rw [HGG.out]
        exact ResS2.nil HB5.out
      | true =>
        have HGG := hid (show R = if (fstG wi hi xs ws).1 = [] then ([], 0, 6) else ((fstG wi hi xs ws).1, (fstG wi hi xs ws).2, 0) by have h9 := HG.out; simp only [eq_self_iff_true, if_true, if_pos HN5.out] at h9; exact h9)
        obtain ⟨W6, hW6⟩ : ∃ W, W = (w5.alloc (.cells #[.slice none 0 0] 52)).alloc (.cells #[.int .i64 0] 2) := ⟨_, rfl⟩
        have hS6 := sxb_new w5 W6 hW6
        have HS6 := hid hS6
        have l6 := (HK.out W6 (below_of HC5.out HC5.out.size hS6.below)).1
        have HO := hid (HLo.out w5 HC5.out HVv.out HN5.out.1 HN5.out.2 W6 [] none 0 0 ([], 0) (Nat.zero_add _) ⟨rfl, fun i hi => by cases hi⟩ hS6 ⟨.inl ⟨rfl, rfl⟩, by decide, by decide⟩ (World.ownsRow_nil _ _ _ _) 0 rfl)
        rw [← HF.out] at HO
        generalize fstG wi hi xs ws = F at *
        clear hS6
        go_upto_region 8 with fail
        rw [← hW6]
        clear hW6 l5
        go_wp2_with fail
        refine HO.out.mono ?_
        rintro e w9 ⟨rfl, hF9, hS9⟩
        have HB9 := hid (below_of HB5.out HB5.out.size hS9.below)
        have hlt9 := hS9.lt
        obtain ⟨A9, c9, cb9, own9, hnil⟩ := hS9.cb
        have cl9 := hS9.cl
        have HO9 := hid own9
        obtain ⟨fl, fv⟩ := F
        dsimp only at cb9 cl9 hnil
        clear hF9 hS9 own9 l6
        by_cases hfl : fl = []
        · obtain ⟨rfl, rfl⟩ := hnil hfl
          have HRR := hid (show R = ([], 0, 6) by rw [HGG.out, if_pos hfl])
          clear hfl hnil
          go_wp2_with fail
          refine bodyPost_ret (v := .tuple #[.slice none 0 0, .int .i64 0, .int .i64 6]) (by simp [results, Try.results22, go_sem]) rfl ?_
          rw [HRR.out]
          exact ResS2.nil HB9.out
        · have hAb : A9 ≠ none := by
            intro e
            subst e
            rcases HO9.out.2 with ⟨h1, h2⟩ | ⟨g, cap, cur, h1, _⟩
            · exact hfl (List.eq_nil_of_length_eq_zero h2)
            · injection h1 with h1; cases h1
          obtain ⟨ab, rfl⟩ : ∃ ab, A9 = some ab := by cases A9 with | none => exact absurd rfl hAb | some ab => exact ⟨ab, rfl⟩
          have HRR := hid (show R = (fl, fv, 0) by rw [HGG.out, if_neg hfl])
          clear hfl hnil hAb
          go_wp2_with fail
          go_region
          go_wp2_with fail
          refine bodyPost_ret (v := .tuple #[.slice (some ab) fl.length c9, .int .i64 fv, .int .i64 0]) (by simp [results, Try.results22, go_sem]) rfl ?_
          rw [HRR.out]
          exact ⟨some ab, c9, rfl, HB9.out.drew, own_low (own_step HO9.out ((Below.refl _ _).drew)) (by have := HB5.out.size; omega)⟩
theorem BestOrder_len (wi hi : Int) (xs : List Pc) (ws : List Wy) (h : xs.length ≤ 1048576) : (BestOrderG wi hi xs ws).1.length ≤ 1048576 := Nat.le_trans (best_len wi hi xs ws) (by decide)
/-- The least that has been laid so far (-1: nothing yet). -/
def lsG (st : List Int × Int) : Int := if st.1 = [] then -1 else st.2
theorem bst_ref (wi hi : Int) (xs : List Pc) (ws : List Wy) (st : List Int × Int) (o : List Int) {G : (Int × Int × List Pc) × Int} (h : allG wi hi xs (selW ws o) = G) : bstG wi hi xs ws st o = if G.2 = 0 then (if st.1 = [] ∨ (G.1.2.2.length : Int) - xs.length < st.2 then (o, (G.1.2.2.length : Int) - xs.length) else st) else st := by
  unfold bstG; rw [h]
set_option maxRecDepth 100000 in
set_option maxHeartbeats 8000000 in
theorem BestOrder_S (w : World) (wi hi : Int) (wl : -128 ≤ wi) (wu : wi ≤ 127) (hl : -128 ≤ hi) (hu : hi ≤ 127) (a : Option Addr) (c : Nat) (xs : List Pc) (h : SlA Pc.enc 5 w a xs) (hnc : a = none → c = 0) (ok : ∀ p ∈ xs, p.Ok) (hs : xs.length ≤ 1048576) (al : Option Addr) (cl : Nat) (ws : List Wy) (hw : SlA Wy.enc 6 w al ws) (hnc2 : al = none → cl = 0) (okw : ∀ p ∈ ws, p.Ok) (hs2 : ws.length ≤ 1048576) :
    Calls Try.prog 21 #[.agg #[.int .i8 wi, .int .i8 hi, .slice a xs.length c], .slice al ws.length cl] w (ResS2 en1 1 2 w (BestOrderG wi hi xs ws).1 (BestOrderG wi hi xs ws).2.1 (BestOrderG wi hi xs ws).2.2) := by
  obtain ⟨W1, hW1⟩ : ∃ W, W = w.alloc (.cells #[.int .i8 wi, .int .i8 hi, .slice a xs.length c] 32) := ⟨_, rfl⟩
  have B1 : Below w.heap.size w W1 := by rw [hW1]; exact (Below.refl _ _).alloc (Nat.le_refl _) _
  have bd1 : BdA W1 w.heap.size wi hi a xs.length c := by rw [hW1]; exact bd_box _ _ _ _ _ _ _
  have HB1 := hid B1
  have HK := hid (fun W (hW : Below W1.heap.size W1 W) => (⟨bd1.below hW bd1.lt, (h.below B1).below hW, (hw.below B1).below hW⟩ : BdA W w.heap.size wi hi a xs.length c ∧ SlA Pc.enc 5 W a xs ∧ SlA Wy.enc 6 W al ws))
  have HG := hid (best_eq wi hi xs ws)
  have HV := hid (ok_S w.heap.size wi hi a c xs W1 ⟨wl, wu, hl, hu⟩ bd1 (h.below B1) ok)
  have HIn := hid (@len_in ws.length)
  have HF := hid (show fstG wi hi xs ws = (levG ws.length ws.length [[]]).foldl (bstG wi hi xs ws) ([], 0) from rfl)
  have HWk := hid (fun (W : World) (hW : Below W1.heap.size W1 W) (k : Nat) (p : Wy) (hk : ws[k]? = some p) (lb lo : Nat) (hal : al = some ⟨lb, lo, none⟩) (hlt : lb < W.heap.size) (hc : ∀ i q, ws[i]? = some q → ∀ j u, (Wy.enc q)[j]? = some u → W.cell? ⟨lb, lo + (i * 6 + j), none⟩ = some u) => okO_LS w.heap.size lb (lo + k * 6) wi hi ⟨wl, wu, hl, hu⟩ a c xs p (okw p (List.mem_of_getElem? hk)) W (HK.out W hW).1 (HK.out W hW).2.1 (way_at hc hlt hk))
  have HAl := hid (fun (W : World) (hW : Below W1.heap.size W1 W) (hbo : bdOk wi hi xs = true) (ao : Option Addr) (co : Nat) (o : List Int) (hO : OrdK ws.length ws.length o) (hn5 : ws.length ≤ 5) (ho : SlA en1 1 W ao o) => (all_LS w.heap.size wi hi a c xs hs hnc ok hbo al cl ws.length ws rfl okw ao co o.length o rfl (by rw [hO.1]; omega) hO.2 W (HK.out W hW).1 (HK.out W hW).2.1 (HK.out W hW).2.2 ho : Calls Try.prog 39 #[.pointer (some ⟨w.heap.size, 0, none⟩), .slice al ws.length cl, .slice ao o.length co] W (ResK W (allG wi hi xs (selW ws o)))))
  have HAln := hid (fun (hb : bdOk wi hi xs = true) ms => all_len (wi := wi) (hi := hi) ms (xs := xs) hb)
  have HX2 := hid (fun (hb : bdOk wi hi xs = true) => (bd_in hb).2.2)
  have HLev := hid (fun (o : List Int) (ho : o ∈ levG ws.length ws.length [[]]) => (by
    have := lev_ok (n := ws.length) ws.length (k := 0) (xs := [[]]) (fun q hq => by rw [List.mem_singleton.1 hq]; exact ⟨rfl, fun i hi => by cases hi⟩) o ho
    rwa [Nat.zero_add] at this : OrdK ws.length ws.length o))
  have HSt := hid (fun (hbo : bdOk wi hi xs = true) (st : List Int × Int) (o : List Int) (hB : BstOk ws.length st) (hO : OrdK ws.length ws.length o) => bst_ok (ws := ws) hbo hB hO)
  obtain ⟨v, hv⟩ : ∃ v, bdOk wi hi xs = v := ⟨_, rfl⟩
  rw [hv] at HV HG
  have HVv := hid hv
  generalize BestOrderG wi hi xs ws = R at *
  obtain ⟨u, hu⟩ : ∃ u, ws.all (wayB wi hi xs) = u := ⟨_, rfl⟩
  rw [hu] at HG
  have HU := hid hu
  obtain ⟨n, hn⟩ : ∃ n, ws.length = n := ⟨_, rfl⟩
  rw [hn] at HG HIn HAl HF HLev HSt hs2
  have HN := hid hn
  rw [hn]
  clear h hw okw ok B1 bd1 hv hn hu
  go_enter Try.func21, Try.ntmps21
  go_upto_region 1 with fail
  rw [← hW1]
  clear hW1
  go_wp2_with fail
  refine HV.out.mono ?_
  rintro e w4 ⟨rfl, hb4⟩
  have HC4 := hid hb4
  have HB4 := hid (below_of HB1.out HB1.out.size hb4)
  clear hb4
  cases v with
  | false =>
    have HGG := hid (show R = ([], 0, 1) by rw [HG.out]; rfl)
    go_wp2_with fail
    refine bodyPost_ret (v := .tuple #[.slice (some ⟨w4.heap.size, 0, none⟩) 0 0, .int .i64 0, .int .i64 1]) (by simp [results, Try.results21, go_sem]) rfl ?_
    rw [HGG.out]
    exact ResS2.empty HB4.out
  | true =>
    cases hi5 : inB (n : Int) 1 5 with
    | false =>
      have hn5 : ¬ (1 ≤ n ∧ n ≤ 5) := by rw [HIn.out, decide_eq_false_iff_not] at hi5; exact hi5
      have HGG := hid (show R = ([], 0, 2) by have h9 := HG.out; simp only [eq_self_iff_true, if_true, if_neg hn5] at h9; exact h9)
      clear hn5
      go_wp2_with (go_at_call 44; refine (in_S _ _ _ _).mono ?_; rintro e w' ⟨rfl, rfl⟩)
      refine bodyPost_ret (v := .tuple #[.slice (some ⟨w4.heap.size, 0, none⟩) 0 0, .int .i64 0, .int .i64 2]) (by simp [results, Try.results21, go_sem]) rfl ?_
      rw [HGG.out]
      exact ResS2.empty HB4.out
    | true =>
      have hn5 : 1 ≤ n ∧ n ≤ 5 := by rw [HIn.out, decide_eq_true_iff] at hi5; exact hi5
      have HN5 := hid hn5
      have hx200 := HX2.out HVv.out
      go_wp2_with (go_at_call 44; refine (in_S _ _ _ _).mono ?_; rintro e w' ⟨rfl, rfl⟩)
      clear hi5
      go_loopw [7] (fun iv wr => ∃ k : Nat, k ≤ n ∧ iv = .int .i64 k ∧ (ws.take k).all (wayB wi hi xs) = true ∧ Below W1.heap.size W1 wr) (fun iv _ => n - (intOf iv).toNat)
      case atStart => exact ⟨0, Nat.zero_le _, rfl, rfl, HC4.out⟩
      case round =>
        obtain ⟨k, hk, rfl, hall, hbl⟩ := hrel
        have HAll := hid hall
        have HBl := hid hbl
        obtain ⟨V5, hV5⟩ : ∃ V, V = wr := ⟨_, rfl⟩
        subst hV5
        by_cases hlt : k < n
        · have hd : decide ((k : Int) < (n : Int)) = true := by rw [decide_eq_true_iff]; omega
          have wk : IntKind.i64.wrap ((k : Int) + 1) = (k : Int) + 1 := IntWalk.i64_in _ (by omega)
          have hkl : k < ws.length := by rw [HN.out]; exact hlt
          have hp : ws[k]? = some ws[k] := List.getElem?_eq_getElem hkl
          obtain ⟨lb, lo, rfl, hlb, hlc⟩ := (HK.out V5 hbl).2.2.cells (by omega)
          have HW := hid (HWk.out V5 hbl k _ hp lb lo rfl hlb hlc)
          have htk : (ws.take (k + 1)).all (wayB wi hi xs) = wayB wi hi xs ws[k] := by
            rw [List.take_add_one, hp, List.all_append, hall]
            simp
          have hin := List.getElem_mem hkl
          generalize ws[k] = p at *
          obtain ⟨t, ht⟩ : ∃ t, wayB wi hi xs p = t := ⟨_, rfl⟩
          rw [ht] at HW htk
          have HTk := hid htk
          have HT := hid ht
          clear hall hbl hlc hp htk ht
          go_wp2_with fail
          refine HW.out.mono ?_
          rintro e w6 ⟨rfl, hb6⟩
          have HB6 := hid (below_of HBl.out HBl.out.size hb6)
          clear hb6
          cases t with
          | true =>
            go_wp2_with fail
            exact ⟨⟨k + 1, by omega, by go_num, HTk.out, HB6.out⟩, by simp [intOf]; omega⟩
          | false =>
            have HGG := hid (show R = ([], 0, 1) by
              have hu : u = false := by
                rw [← HU.out, List.all_eq_false]
                exact ⟨p, hin, by rw [HT.out]; decide⟩
              have h9 := HG.out
              rw [hu] at h9
              simp only [eq_self_iff_true, Bool.false_eq_true, if_true, if_false, if_pos HN5.out] at h9
              exact h9)
            clear hin
            go_wp2_with fail
            refine bodyPost_ret (v := .tuple #[.slice (some ⟨w6.heap.size, 0, none⟩) 0 0, .int .i64 0, .int .i64 1]) (by simp [results, Try.results21, go_sem]) rfl ?_
            rw [HGG.out]
            exact ResS2.empty (below_of HB1.out HB1.out.size HB6.out)
        · obtain rfl : k = n := by omega
          have hd : decide ((k : Int) < (k : Int)) = false := by rw [decide_eq_false_iff_not]; omega
          have HGG := hid (show R = if (fstG wi hi xs ws).1 = [] then ([], 0, 6) else ((fstG wi hi xs ws).1, (fstG wi hi xs ws).2, 0) by
            have hu : u = true := by
              rw [← HU.out, ← hall, List.take_of_length_le (by rw [HN.out]; exact Nat.le_refl _)]
            have h9 := HG.out
            rw [hu] at h9
            simp only [eq_self_iff_true, if_true, if_pos HN5.out] at h9
            exact h9)
          have HOr := hid (fun W => orders_S5 k W hn5.2)
          have HLl := hid (lev_small (k := k) hn5.2 (Nat.le_refl _))
          obtain ⟨os, hos⟩ : ∃ os, levG k k [[]] = os := ⟨_, rfl⟩
          rw [hos] at HF HLev HOr HLl
          generalize fstG wi hi xs ws = F at *
          obtain ⟨W6, hW6⟩ : ∃ W, W = V5.alloc (.cells #[] 2) := ⟨_, rfl⟩
          have hb6 : Below V5.heap.size V5 W6 := by rw [hW6]; exact (Below.refl _ _).alloc (Nat.le_refl _) _
          have HE6 := hid (show W6.ownsRow V5.heap.size 2 1 (.slice (some ⟨V5.heap.size, 0, none⟩) 0 0) 0 [] by rw [hW6]; exact World.ownsRow_lit V5 #[] 0 (Nat.le_refl _) (by simp [maxLen]) (by simp))
          have HC6 := hid (below_of HBl.out HBl.out.size hb6)
          clear hall hbl hos hb6 hn5
          go_upto_region 11 with fail
          rw [← hW6]
          obtain ⟨g6, hg6⟩ : ∃ g, V5.heap.size = g := ⟨_, rfl⟩
          have HG6 := hid hg6
          rw [hg6] at HE6
          (try rw [hg6])
          clear hW6 hg6
          go_wp2_with fail
          refine (HOr.out _).mono ?_
          rintro e w7 ⟨AO, cO, vO, rfl, hb7, hR7⟩
          have HC7 := hid (below_of HC6.out HC6.out.size hb7)
          have HE7 := hid (own_step HE6.out hb7)
          have HR7 := hid hR7
          have hol := HLl.out
          clear hb7 hR7 hd hlt
          go_wp2_with fail
          go_loopw [8, 9, 11] (fun bv lv iv wr => ∃ (i cb : Nat) (Ab : Option Addr) (st : List Int × Int), i ≤ os.length ∧ iv = .int .i64 i ∧ bv = .slice Ab st.1.length cb ∧ lv = .int .i64 (lsG st) ∧ wr.ownsRow w.heap.size 2 1 (.slice Ab st.1.length cb) st.1.length (st.1.flatMap en1) ∧ BstOk k st ∧ Below w7.heap.size w7 wr ∧ (os.drop i).foldl (bstG wi hi xs ws) st = F) (fun _ _ iv _ => os.length - (intOf iv).toNat)
          case atStart => exact ⟨0, 0, _, ([], 0), Nat.zero_le _, rfl, rfl, rfl, own_low HE7.out (by have := HB1.out.size; have := HBl.out.size; have := HG6.out; omega), ⟨.inl ⟨rfl, rfl⟩, by decide, by decide⟩, Below.refl _ _, HF.out.symm⟩
          case round =>
            obtain ⟨i, cb, Ab, st, hile, rfl, rfl, rfl, own, hB, hbl, hfo⟩ := hrel
            obtain ⟨V8, hV8⟩ : ∃ V, V = wr := ⟨_, rfl⟩
            subst hV8
            have HO8 := hid own
            have HBs := hid hB
            have HB8 := hid hbl
            have HFo := hid hfo
            have HC8 := hid (below_of HC7.out HC7.out.size hbl)
            by_cases hlt : i < os.length
            · have hd : decide ((i : Int) < (os.length : Int)) = true := by rw [decide_eq_true_iff]; omega
              have wk : IntKind.i64.wrap ((i : Int) + 1) = (i : Int) + 1 := IntWalk.i64_in _ (by omega)
              obtain ⟨o, ho⟩ : ∃ o, os[i]? = some o := ⟨_, List.getElem?_eq_getElem hlt⟩
              have hO := HLev.out o (List.mem_of_getElem? ho)
              obtain ⟨ao, co, hv, hrow, -⟩ := HR7.out.row i o ho
              obtain ⟨g, go, rfl, hg, hgc⟩ := own_cellsV HR7.out.own HR7.out.len (by omega)
              have hcw := hgc i _ hv
              have hc8 := cell_on hbl hcw
              have HCW := hid (fun W (hb : Below w7.heap.size w7 W) => (cell_on hb hcw : W.cell? ⟨g, go + i, none⟩ = some (.slice ao o.length co)))
              have HRo := hid hrow
              have HAll8 := hid (show Calls Try.prog 39 #[.pointer (some ⟨w.heap.size, 0, none⟩), .slice al k cl, .slice ao o.length co] V8 (ResK V8 (allG wi hi xs (selW ws o))) from HAl.out V8 HC8.out HVv.out ao co o hO HN5.out.2 (en1_row (own_step hrow hbl)))
              obtain ⟨G, hG⟩ : ∃ G, allG wi hi xs (selW ws o) = G := ⟨_, rfl⟩
              have HBf := hid (bst_ref wi hi xs ws st o hG)
              have HBk := hid (HSt.out HVv.out st o hB hO)
              have hal := HAln.out HVv.out (selW ws o)
              rw [hG] at HAll8 hal
              have hst : bstG wi hi xs ws st o = bstG wi hi xs ws st o := rfl
              have HFo2 := hid (show (os.drop (i + 1)).foldl (bstG wi hi xs ws) (bstG wi hi xs ws st o) = F by
                rw [← hfo, List.drop_eq_getElem_cons hlt, List.foldl_cons]
                have : os[i] = o := by rw [List.getElem?_eq_getElem hlt] at ho; injection ho
                rw [this])
              have wn : IntKind.i64.wrap ((G.1.2.2.length : Int) - (xs.length : Int)) = (G.1.2.2.length : Int) - (xs.length : Int) := IntWalk.i64_in _ (by omega)
              have HON := hid (show o ≠ [] by intro e; rw [e] at hO; have := hO.1; have := HN5.out.1; simp at *; omega)
              generalize bstG wi hi xs ws st o = st2 at *
              clear own hB hfo hG hO hv hrow hgc hcw hst ho hbl
              go_wp2_with fail
              refine HAll8.out.mono ?_
              rintro e w9 ⟨A9, c9, rfl, hb9, own9⟩
              obtain ⟨WX, hWX⟩ : ∃ W, W = w9.alloc (.cells #[.int .i8 G.1.1, .int .i8 G.1.2.1, .slice A9 G.1.2.2.length c9] 32) := ⟨_, rfl⟩
              have hbX : Below w9.heap.size w9 WX := by rw [hWX]; exact (Below.refl _ _).alloc (Nat.le_refl _) _
              have hqX : BoQ WX w9.heap.size G.1.1 G.1.2.1 A9 G.1.2.2.length c9 := by rw [hWX]; exact boq_new _ _ _ _ _ _ _
              have hbY := below_of (Below.refl _ _) (Nat.le_refl _) (below_of hb9 hb9.size hbX)
              have HBX := hid (below_of HB8.out HB8.out.size hbY)
              have HOX := hid (own_step HO8.out hbY)
              have hcX := HCW.out WX HBX.out
              obtain ⟨⟨-, q0, q1, q2⟩, -, -⟩ := HK.out WX (below_of HC8.out HC8.out.size hbY)
              obtain ⟨-, r0, r1, r2, rz⟩ := hqX
              obtain ⟨q, hq⟩ : ∃ q, w9.heap.size = q := ⟨_, rfl⟩
              rw [hq] at r0 r1 r2
              have HRX := hid (own_low (own_step HRo.out HBX.out) (show w.heap.size ≤ W6.heap.size by have := HB1.out.size; have := HC6.out.size; omega))
              clear hb9 own9 hbX hbY rz
              go_upto_region 17 with fail
              rw [← hWX]
              (try rw [hq])
              clear hWX hq
              obtain ⟨⟨x1, x2, zs⟩, gc⟩ := G
              dsimp only at hal wn r0 r1 r2
              dsimp only
              have hn1 : ∀ z : Int, (z, gc).2 = gc := fun _ => rfl
              by_cases hgc : gc = 0
              · subst hgc
                have HB2 := hid (show st2 = if st.1 = [] ∨ (zs.length : Int) - xs.length < st.2 then (o, (zs.length : Int) - xs.length) else st by rw [HBf.out]; exact if_pos rfl)
                by_cases hse : st.1 = []
                · have hls : lsG st = -1 := by unfold lsG; rw [if_pos hse]
                  have HRR := hid (show st2 = (o, (zs.length : Int) - xs.length) by rw [HB2.out, if_pos (.inl hse)])
                  rw [hls]
                  clear hls hse
                  go_wp2_with fail
                  refine ⟨⟨i + 1, co, ao, (o, (zs.length : Int) - xs.length), by omega, by go_num, rfl, ?_, HRX.out, by rw [← HRR.out]; exact HBk.out, HBX.out, by rw [← HRR.out]; exact HFo2.out⟩, by simp [intOf]; omega⟩
                  unfold lsG; rw [if_neg HON.out]
                · have hls : lsG st = st.2 := by unfold lsG; rw [if_neg hse]
                  have h0 : decide (st.2 < 0) = false := decide_eq_false (by have := HBs.out.2.1; omega)
                  rw [hls]
                  by_cases hlt2 : (zs.length : Int) - xs.length < st.2
                  · have hd2 : decide ((zs.length : Int) - (xs.length : Int) < st.2) = true := decide_eq_true hlt2
                    have HRR := hid (show st2 = (o, (zs.length : Int) - xs.length) by rw [HB2.out, if_pos (.inr hlt2)])
                    clear hls hse hlt2
                    go_wp2_with fail
                    refine ⟨⟨i + 1, co, ao, (o, (zs.length : Int) - xs.length), by omega, by go_num, rfl, ?_, HRX.out, by rw [← HRR.out]; exact HBk.out, HBX.out, by rw [← HRR.out]; exact HFo2.out⟩, by simp [intOf]; omega⟩
                    unfold lsG; rw [if_neg HON.out]
                  · have hd2 : decide ((zs.length : Int) - (xs.length : Int) < st.2) = false := decide_eq_false hlt2
                    have HRR := hid (show st2 = st by rw [HB2.out, if_neg (fun h => h.elim hse hlt2)])
                    have HLs := hid hls
                    clear hls hse hlt2
                    go_wp2_with fail
                    exact ⟨⟨i + 1, cb, Ab, st, by omega, by go_num, rfl, by rw [HLs.out], HOX.out, HBs.out, HBX.out, by rw [← HRR.out]; exact HFo2.out⟩, by simp [intOf]; omega⟩
              · have hgn : (gc != 0) = true := by simpa using hgc
                have HRR := hid (show st2 = st by rw [HBf.out]; exact if_neg hgc)
                clear hgc
                go_wp2_with fail
                exact ⟨⟨i + 1, cb, Ab, st, by omega, by go_num, rfl, rfl, HOX.out, HBs.out, HBX.out, by rw [← HRR.out]; exact HFo2.out⟩, by simp [intOf]; omega⟩
            · obtain rfl : i = os.length := by omega
              have hd : decide ((os.length : Int) < (os.length : Int)) = false := by rw [decide_eq_false_iff_not]; omega
              have hF : st = F := by rw [← hfo, List.drop_length]; rfl
              subst hF
              have HTot := hid (below_of HB1.out HB1.out.size HC8.out)
              by_cases hse : st.1 = []
              · have hls : lsG st = -1 := by unfold lsG; rw [if_pos hse]
                have HRR := hid (show R = ([], 0, 6) by rw [HGG.out, if_pos hse])
                rw [hls]
                clear hls hse own hB hbl hfo
                go_wp2_with fail
                refine bodyPost_ret (v := .tuple #[.slice (some ⟨V8.heap.size, 0, none⟩) 0 0, .int .i64 0, .int .i64 6]) (by simp [results, Try.results21, go_sem]) rfl ?_
                rw [HRR.out]
                exact ResS2.empty HTot.out
              · have hls : lsG st = st.2 := by unfold lsG; rw [if_neg hse]
                have h0 : decide (st.2 < 0) = false := decide_eq_false (by have := HBs.out.2.1; omega)
                have HRR := hid (show R = (st.1, st.2, 0) by rw [HGG.out, if_neg hse])
                rw [hls]
                clear hls hse own hB hbl hfo
                go_wp2_with fail
                refine bodyPost_ret (v := .tuple #[.slice Ab st.1.length cb, .int .i64 st.2, .int .i64 0]) (by simp [results, Try.results21, go_sem]) rfl ?_
                rw [HRR.out]
                exact ⟨Ab, cb, rfl, HTot.out, HO8.out⟩
end Go.Proofs.Ytgkgklgeobbmlaa
