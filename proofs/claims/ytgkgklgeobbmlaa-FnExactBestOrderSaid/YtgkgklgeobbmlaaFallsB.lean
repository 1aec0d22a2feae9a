/-
  From which sides a piece falls, and what it hits: the program's.
  From which sides a piece falls, and what it hits: the program's, turned.
  Conditions: the piece is right, the side is one.
-/
import Derived.Test.YtgkgklgeobbmlaaHits
import Derived.Deep.RegionHeld3
import Derived.Test.YtgkgklgeobbmlaaClkG
namespace Go.Proofs.Ytgkgklgeobbmlaa
open Go.RowKit
set_option linter.unusedSimpArgs false
set_option linter.unusedVariables false

/-- What a piece of a kind hits that has not been turned: the program's bits (0 or another number where it does not fall). -/
def ub (k d : Int) : Int :=
  if k = 0 then (if d = 0 then 4 else if d = 1 then 8 else if d = 2 then 1 else 2)
  else if k = 1 then (if d = 2 then 8 else if d = 3 then 4 else 0)
  else if k = 2 then (if d = 0 then 12 else if d = 1 then 13 else if d = 2 then 9 else 5)
  else if k = 3 then 2
  else if k = 4 then (if d = 1 then 8 else if d = 3 then 2 else 0)
  else (if d = 0 then 4 else if d = 1 then 8 else if d = 2 then 1 else 2)
def mx (v : Int) : Int := if 0 ≤ v then v else 0
theorem ub_tab {k d : Int} (hk : 0 ≤ k ∧ k ≤ 5) (hd : 0 ≤ d ∧ d ≤ 3) (h : 0 ≤ tab k d) : ub k d = tab k d := by
  obtain rfl | rfl | rfl | rfl | rfl | rfl : k = 0 ∨ k = 1 ∨ k = 2 ∨ k = 3 ∨ k = 4 ∨ k = 5 := by omega
  all_goals (
    obtain rfl | rfl | rfl | rfl : d = 0 ∨ d = 1 ∨ d = 2 ∨ d = 3 := by omega
    all_goals (revert h; decide))
theorem has_V (v : Int) (s : Nat) (w : World) (hv : 0 ≤ v ∧ v ≤ 15) (hs : s < 4) :
    Calls Try.prog 112 #[.int .u8 v, .int .i64 s] w fun e w' => e = .returned (.bool (bitI v s)) ∧ w = w' := by
  refine (has_I v s w (by omega) (by omega) (by omega) (by omega)).mono ?_
  rintro e w' ⟨rfl, rfl⟩
  exact ⟨ret_bool (by unfold bitI; rw [Int.toNat_natCast]), rfl⟩
theorem opp_I (s : Int) (w : World) (hs : 0 ≤ s ∧ s ≤ 3) : Calls Try.prog 110 #[.int .i64 s] w fun e w' => e = .returned (.int .i64 ((s + 2) % 4)) ∧ w = w' := by
  obtain ⟨h0, h1⟩ := hs
  go_enter Try.func110, Try.ntmps110
  go_wp2_with fail
  go_ret
  exact ⟨rfl, rfl⟩
def orB (acc x : Int) : Int := bits BinOp.or IntKind.u8 acc (2 ^ x.toNat)
def orL : List Int → Int → Int
  | [], acc => acc
  | x :: xs, acc => orL xs (orB acc x)
theorem orL_snoc (x : Int) : ∀ (xs : List Int) (acc : Int), orL (xs ++ [x]) acc = orB (orL xs acc) x
  | [], acc => rfl
  | y :: ys, acc => orL_snoc x ys (orB acc y)
theorem orL_take {xs : List Int} {k : Nat} {x : Int} (h : xs[k]? = some x) : orL (xs.take (k + 1)) 0 = orB (orL (xs.take k) 0) x := by
  rw [List.take_add_one, h]
  exact orL_snoc x _ _
theorem sides_I (b : Nat) (xs : List Int) (c : Nat) (w : World) (hl : xs.length ≤ 100) (hv : ∀ x ∈ xs, 0 ≤ x ∧ x ≤ 3) (hc : ∀ i x, xs[i]? = some x → w.cell? ⟨b, i, none⟩ = some (.int .i64 x)) :
    Calls Try.prog 120 #[.slice (some ⟨b, 0, none⟩) xs.length c] w fun e w' => e = .returned (.int .u8 (orL xs 0)) ∧ w = w' := by
  go_enter Try.func120, Try.ntmps120
  go_wp2_with fail
  go_loop [3, 8] (fun ov kv => ∃ k : Nat, k ≤ xs.length ∧ kv = .int .i64 k ∧ ov = .int .u8 (orL (xs.take k) 0)) (fun _ kv => xs.length - (intOf kv).toNat)
  case atStart => exact ⟨0, Nat.zero_le _, rfl, rfl⟩
  case round =>
    obtain ⟨k, hk, rfl, rfl⟩ := hrel
    by_cases hlt : k < xs.length
    · have e1 : xs[k]? = some xs[k] := List.getElem?_eq_getElem hlt
      have f0 := hc k _ e1
      obtain ⟨h0, h3⟩ := hv _ (List.getElem_mem hlt)
      have HT := hid (orL_take e1)
      generalize xs[k] = x at *
      generalize orL (xs.take k) 0 = r at *
      have hki : (k : Int) < (xs.length : Int) := by omega
      clear e1 hc hv
      obtain rfl | rfl | rfl | rfl : x = 0 ∨ x = 1 ∨ x = 2 ∨ x = 3 := by omega
      all_goals (
        go_wp2_with fail
        exact ⟨⟨k + 1, by omega, by go_num, by rw [HT.out]; rfl⟩, by simp [intOf]; omega⟩)
    · obtain rfl : k = xs.length := by omega
      go_wp2_with fail
      go_ret
      exact ⟨ret_int (by simp), rfl⟩
theorem side1_I (b : Nat) (v : Int) (w : World) (hv : 0 ≤ v ∧ v ≤ 3) (hc : w.cell? ⟨b, 0, none⟩ = some (.int .i64 v)) :
    Calls Try.prog 120 #[.slice (some ⟨b, 0, none⟩) 1 1] w fun e w' => e = .returned (.int .u8 (orB 0 v)) ∧ w = w' := by
  refine (sides_I b [v] 1 w (by simp) (by simpa using hv) (fun i x h => ?_)).mono ?_
  · have : i = 0 := by
      have := (List.getElem?_eq_some_iff.1 h).1
      simp at this; omega
    subst this
    simp at h; subst h
    exact hc
  · rintro e w' ⟨rfl, rfl⟩; exact ⟨rfl, rfl⟩
theorem side3_I (b : Nat) (w : World) (h0 : w.cell? ⟨b, 0, none⟩ = some (.int .i64 0)) (h1 : w.cell? ⟨b, 1, none⟩ = some (.int .i64 2)) (h2 : w.cell? ⟨b, 2, none⟩ = some (.int .i64 3)) :
    Calls Try.prog 120 #[.slice (some ⟨b, 0, none⟩) 3 3] w fun e w' => e = .returned (.int .u8 13) ∧ w = w' := by
  refine (sides_I b [0, 2, 3] 3 w (by simp) (by simp) (fun i x h => ?_)).mono ?_
  · have hi : i = 0 ∨ i = 1 ∨ i = 2 := by
      have := (List.getElem?_eq_some_iff.1 h).1
      simp at this; omega
    rcases hi with rfl | rfl | rfl
    · simp at h; subst h; exact h0
    · simp at h; subst h; exact h1
    · simp at h; subst h; exact h2
  · rintro e w' ⟨rfl, rfl⟩; exact ⟨rfl, rfl⟩
set_option maxRecDepth 100000 in
theorem unt_0 (d : Int) (w : World) (hd0 : 0 ≤ d) (hd1 : d ≤ 3) :
    Calls Try.prog 119 #[.int .i8 0, .int .i64 d] w fun e w' => e = .returned (.tuple #[.bool (decide (0 ≤ tab 0 d)), .int .u8 (ub 0 d)]) ∧ Below w.heap.size w w' := by
  have HB := hid (fun o => (Below.refl w.heap.size w).alloc (Nat.le_refl _) o)
  obtain rfl | rfl | rfl | rfl : d = 0 ∨ d = 1 ∨ d = 2 ∨ d = 3 := by omega
  all_goals (
      go_enter Try.func119, Try.ntmps119
      go_wp2_with (first
        | (go_at_call 110; refine (opp_I _ _ (by decide)).mono ?_; rintro e w' ⟨rfl, rfl⟩)
        | (go_at_call 120; refine (side1_I _ _ _ ?h (by simp [go_sem]; rfl)).mono ?_; (case h => decide); rintro e w' ⟨rfl, rfl⟩))
      refine bodyPost_ret (v := .tuple #[.bool (decide (0 ≤ tab 0 _)), .int .u8 (ub 0 _)]) (by simp [results, Try.results119, go_sem]; decide) rfl ⟨rfl, ?_⟩
      first | exact Below.refl _ _ | exact HB.out _ | exact (HB.out _).alloc (by simp) _
  )
set_option maxRecDepth 100000 in
theorem unt_1 (d : Int) (w : World) (hd0 : 0 ≤ d) (hd1 : d ≤ 3) :
    Calls Try.prog 119 #[.int .i8 1, .int .i64 d] w fun e w' => e = .returned (.tuple #[.bool (decide (0 ≤ tab 1 d)), .int .u8 (ub 1 d)]) ∧ Below w.heap.size w w' := by
  have HB := hid (fun o => (Below.refl w.heap.size w).alloc (Nat.le_refl _) o)
  obtain rfl | rfl | rfl | rfl : d = 0 ∨ d = 1 ∨ d = 2 ∨ d = 3 := by omega
  all_goals (
      go_enter Try.func119, Try.ntmps119
      go_wp2_with (first
        | (go_at_call 110; refine (opp_I _ _ (by decide)).mono ?_; rintro e w' ⟨rfl, rfl⟩)
        | (go_at_call 120; refine (side1_I _ _ _ ?h (by simp [go_sem]; rfl)).mono ?_; (case h => decide); rintro e w' ⟨rfl, rfl⟩))
      refine bodyPost_ret (v := .tuple #[.bool (decide (0 ≤ tab 1 _)), .int .u8 (ub 1 _)]) (by simp [results, Try.results119, go_sem]; decide) rfl ⟨rfl, ?_⟩
      first | exact Below.refl _ _ | exact HB.out _ | exact (HB.out _).alloc (by simp) _
  )
set_option maxRecDepth 100000 in
theorem unt_2 (d : Int) (w : World) (hd0 : 0 ≤ d) (hd1 : d ≤ 3) :
    Calls Try.prog 119 #[.int .i8 2, .int .i64 d] w fun e w' => e = .returned (.tuple #[.bool (decide (0 ≤ tab 2 d)), .int .u8 (ub 2 d)]) ∧ Below w.heap.size w w' := by
  have HB := hid (fun o => (Below.refl w.heap.size w).alloc (Nat.le_refl _) o)
  obtain rfl | rfl | rfl | rfl : d = 0 ∨ d = 1 ∨ d = 2 ∨ d = 3 := by omega
  all_goals (
      go_enter Try.func119, Try.ntmps119
      go_wp2_with fail
      refine (side3_I _ _ (by simp [go_sem]; done) (by simp [go_sem]; done) (by simp [go_sem]; done)).mono ?_
      rintro e w' ⟨rfl, rfl⟩
      go_wp2_with fail
      refine (side1_I _ _ _ ?h (by simp [go_sem]; rfl)).mono ?_
      case h => decide
      rintro e w' ⟨rfl, rfl⟩
      go_wp2_with fail
      refine bodyPost_ret (v := .tuple #[.bool (decide (0 ≤ tab 2 _)), .int .u8 (ub 2 _)]) (by simp [results, Try.results119, go_sem]; decide) rfl ⟨rfl, ?_⟩
      first | exact Below.refl _ _ | exact HB.out _ | exact (HB.out _).alloc (by simp) _
  )
set_option maxRecDepth 100000 in
theorem unt_3 (d : Int) (w : World) (hd0 : 0 ≤ d) (hd1 : d ≤ 3) :
    Calls Try.prog 119 #[.int .i8 3, .int .i64 d] w fun e w' => e = .returned (.tuple #[.bool (decide (0 ≤ tab 3 d)), .int .u8 (ub 3 d)]) ∧ Below w.heap.size w w' := by
  have HB := hid (fun o => (Below.refl w.heap.size w).alloc (Nat.le_refl _) o)
  obtain rfl | rfl | rfl | rfl : d = 0 ∨ d = 1 ∨ d = 2 ∨ d = 3 := by omega
  all_goals (
      go_enter Try.func119, Try.ntmps119
      go_wp2_with (first
        | (go_at_call 110; refine (opp_I _ _ (by decide)).mono ?_; rintro e w' ⟨rfl, rfl⟩)
        | (go_at_call 120; refine (side1_I _ _ _ ?h (by simp [go_sem]; rfl)).mono ?_; (case h => decide); rintro e w' ⟨rfl, rfl⟩))
      refine bodyPost_ret (v := .tuple #[.bool (decide (0 ≤ tab 3 _)), .int .u8 (ub 3 _)]) (by simp [results, Try.results119, go_sem]; decide) rfl ⟨rfl, ?_⟩
      first | exact Below.refl _ _ | exact HB.out _ | exact (HB.out _).alloc (by simp) _
  )
set_option maxRecDepth 100000 in
theorem unt_4 (d : Int) (w : World) (hd0 : 0 ≤ d) (hd1 : d ≤ 3) :
    Calls Try.prog 119 #[.int .i8 4, .int .i64 d] w fun e w' => e = .returned (.tuple #[.bool (decide (0 ≤ tab 4 d)), .int .u8 (ub 4 d)]) ∧ Below w.heap.size w w' := by
  have HB := hid (fun o => (Below.refl w.heap.size w).alloc (Nat.le_refl _) o)
  obtain rfl | rfl | rfl | rfl : d = 0 ∨ d = 1 ∨ d = 2 ∨ d = 3 := by omega
  all_goals (
      go_enter Try.func119, Try.ntmps119
      go_wp2_with (first
        | (go_at_call 110; refine (opp_I _ _ (by decide)).mono ?_; rintro e w' ⟨rfl, rfl⟩)
        | (go_at_call 120; refine (side1_I _ _ _ ?h (by simp [go_sem]; rfl)).mono ?_; (case h => decide); rintro e w' ⟨rfl, rfl⟩))
      refine bodyPost_ret (v := .tuple #[.bool (decide (0 ≤ tab 4 _)), .int .u8 (ub 4 _)]) (by simp [results, Try.results119, go_sem]; decide) rfl ⟨rfl, ?_⟩
      first | exact Below.refl _ _ | exact HB.out _ | exact (HB.out _).alloc (by simp) _
  )
set_option maxRecDepth 100000 in
theorem unt_5 (d : Int) (w : World) (hd0 : 0 ≤ d) (hd1 : d ≤ 3) :
    Calls Try.prog 119 #[.int .i8 5, .int .i64 d] w fun e w' => e = .returned (.tuple #[.bool (decide (0 ≤ tab 5 d)), .int .u8 (ub 5 d)]) ∧ Below w.heap.size w w' := by
  have HB := hid (fun o => (Below.refl w.heap.size w).alloc (Nat.le_refl _) o)
  obtain rfl | rfl | rfl | rfl : d = 0 ∨ d = 1 ∨ d = 2 ∨ d = 3 := by omega
  all_goals (
      go_enter Try.func119, Try.ntmps119
      go_wp2_with (first
        | (go_at_call 110; refine (opp_I _ _ (by decide)).mono ?_; rintro e w' ⟨rfl, rfl⟩)
        | (go_at_call 120; refine (side1_I _ _ _ ?h (by simp [go_sem]; rfl)).mono ?_; (case h => decide); rintro e w' ⟨rfl, rfl⟩))
      refine bodyPost_ret (v := .tuple #[.bool (decide (0 ≤ tab 5 _)), .int .u8 (ub 5 _)]) (by simp [results, Try.results119, go_sem]; decide) rfl ⟨rfl, ?_⟩
      first | exact Below.refl _ _ | exact HB.out _ | exact (HB.out _).alloc (by simp) _
  )
theorem unturned_I (k d : Int) (w : World) (hk : 0 ≤ k ∧ k ≤ 5) (hd : 0 ≤ d ∧ d ≤ 3) :
    Calls Try.prog 119 #[.int .i8 k, .int .i64 d] w fun e w' => e = .returned (.tuple #[.bool (decide (0 ≤ tab k d)), .int .u8 (ub k d)]) ∧ Below w.heap.size w w' := by
  obtain ⟨hk0, hk1⟩ := hk
  obtain rfl | rfl | rfl | rfl | rfl | rfl : k = 0 ∨ k = 1 ∨ k = 2 ∨ k = 3 ∨ k = 4 ∨ k = 5 := by omega
  · exact unt_0 d w hd.1 hd.2
  · exact unt_1 d w hd.1 hd.2
  · exact unt_2 d w hd.1 hd.2
  · exact unt_3 d w hd.1 hd.2
  · exact unt_4 d w hd.1 hd.2
  · exact unt_5 d w hd.1 hd.2
theorem ub_in (k d : Int) : 0 ≤ ub k d ∧ ub k d ≤ 15 := by
  unfold ub
  repeat' split
  all_goals omega
theorem rot_or (v t : Int) (ht : 0 ≤ t ∧ t ≤ 3) (k : Nat) (hk : k < 4) (hb : bitI v k = true) : bits BinOp.or IntKind.u8 (rotTo v t k) (orB 0 (((k : Int) + t) % 4)) = rotTo v t (k + 1) := by
  have e : rotTo v t (k + 1) = rotTo v t k + 2 ^ (((k : Int) + t) % 4).toNat := by
    rw [rotTo, hb, if_pos rfl]
  rw [e]
  clear e
  have hk' : k = 0 ∨ k = 1 ∨ k = 2 ∨ k = 3 := by omega
  obtain rfl | rfl | rfl | rfl : t = 0 ∨ t = 1 ∨ t = 2 ∨ t = 3 := by omega
  all_goals (
    rcases hk' with rfl | rfl | rfl | rfl
    all_goals (
      simp only [rotTo]
      (try generalize bitI v 0 = b0)
      (try generalize bitI v 1 = b1)
      (try generalize bitI v 2 = b2)
      (try cases b0) <;> (try cases b1) <;> (try cases b2) <;> decide))
theorem rot_no (v t : Int) (k : Nat) (hb : bitI v k = false) : rotTo v t (k + 1) = rotTo v t k := by
  rw [rotTo, hb]; simp
set_option maxRecDepth 100000 in
set_option maxHeartbeats 1000000 in
theorem falls_I (x y k t d s : Int) (w : World) (hk : 0 ≤ k ∧ k ≤ 5) (ht : 0 ≤ t ∧ t ≤ 3) (hs : 0 ≤ s ∧ s ≤ 3) :
    Calls Try.prog 111 #[.agg #[.int .i8 x, .int .i8 y, .int .i8 k, .int .i8 t, .int .i8 d], .int .i64 s] w fun e w' => e = .returned (.tuple #[.bool (decide (0 ≤ hitsG k t s)), .int .u8 (mx (hitsG k t s))]) ∧ Below w.heap.size w w' := by
  obtain ⟨hk0, hk1⟩ := hk
  obtain ⟨ht0, ht1⟩ := ht
  obtain ⟨hs0, hs1⟩ := hs
  obtain ⟨q, hq⟩ : ∃ q : Int, (s + 4 - t) % 4 = q := ⟨_, rfl⟩
  have hq' : (s - t + 4).tmod 4 = q := by rw [← hq, Int.tmod_eq_emod_of_nonneg (by omega)]; congr 1; omega
  have hq0 : 0 ≤ q := by omega
  have hq1 : q ≤ 3 := by omega
  have HB := hid (fun o => (Below.refl w.heap.size w).alloc (Nat.le_refl _) o)
  have HU := hid (fun W => unturned_I k q W ⟨hk0, hk1⟩ ⟨hq0, hq1⟩)
  have HG := hid (show hitsG k t s = if tab k q < 0 then -1 else rotTo (tab k q) t 4 by unfold hitsG; rw [hq])
  have HT := hid (fun h => ub_tab (k := k) (d := q) ⟨hk0, hk1⟩ ⟨hq0, hq1⟩ h)
  have HI := hid (ub_in k q)
  generalize tab k q = v at *
  generalize ub k q = u at *
  clear hq
  have hdd : decide (0 ≤ v) = true ∨ decide (0 ≤ v) = false := by cases decide (0 ≤ v) <;> simp
  rcases hdd with hd | hd
  · have hu := HT.out (of_decide_eq_true hd)
    subst hu
    have hv0 := of_decide_eq_true hd
    have HG2 := hid (show hitsG k t s = rotTo u t 4 by rw [HG.out, if_neg (by omega)])
    rw [hd] at HU
    have hI := HI.out
    clear hd HG HT HI
    go_enter Try.func111, Try.ntmps111
    go_wp2_with fail
    refine (HU.out _).mono ?_
    rintro e w1 ⟨rfl, hb1⟩
    have HB1 := hid (below_of (HB.out _) (by simp) hb1)
    clear hb1 HU
    go_wp2_with fail
    go_loopw [9, 27] (fun ov kv wr => ∃ j : Nat, j ≤ 4 ∧ kv = .int .i64 j ∧ ov = .int .u8 (rotTo u t j) ∧ Below w.heap.size w wr) (fun _ kv _ => 4 - (intOf kv).toNat)
    case atStart => exact ⟨0, Nat.zero_le _, rfl, rfl, HB1.out⟩
    case round =>
      obtain ⟨j, hj, rfl, rfl, hbl⟩ := hrel
      by_cases hlt : j < 4
      · have hdj : decide ((j : Int) < 4) = true := by rw [decide_eq_true_iff]; omega
        have HH := hid (fun W => has_V u j W hI hlt)
        have HR1 := hid (fun h => rot_or u t ⟨ht0, ht1⟩ j hlt h)
        have HR0 := hid (fun h => rot_no u t j h)
        obtain ⟨m, hm⟩ : ∃ m : Int, ((j : Int) + t) % 4 = m := ⟨_, rfl⟩
        have hm' : ((j : Int) + t).tmod 4 = m := by rw [← hm, Int.tmod_eq_emod_of_nonneg (by omega)]
        have hm0 : 0 ≤ m := by omega
        have hm1 : m ≤ 3 := by omega
        rw [hm] at HR1
        generalize rotTo u t j = r at *
        generalize bitI u j = db at *
        have HBl := hid hbl
        clear hbl hm
        go_wp2_with fail
        refine (HH.out _).mono ?_
        rintro e w2 ⟨rfl, rfl⟩
        cases db
        · go_wp2_with fail
          exact ⟨⟨j + 1, by omega, by go_num, by rw [HR0.out (by first | trivial | rfl)], HBl.out⟩, by simp [intOf]; omega⟩
        · go_wp2_with fail
          refine (side1_I _ m _ ⟨hm0, hm1⟩ (by simp [go_sem])).mono ?_
          rintro e w3 ⟨rfl, rfl⟩
          go_wp2_with fail
          exact ⟨⟨j + 1, by omega, by go_num, by rw [HR1.out (by first | trivial | rfl)], HBl.out.alloc HBl.out.size _⟩, by simp [intOf]; omega⟩
      · obtain rfl : j = 4 := by omega
        have hdj : decide (((4 : Nat) : Int) < 4) = false := by decide
        have hr := rotTo_in u t 4
        go_wp2_with fail
        refine bodyPost_ret (v := .tuple #[.bool (decide (0 ≤ hitsG k t s)), .int .u8 (mx (hitsG k t s))]) ?_ rfl ⟨rfl, hbl⟩
        rw [HG2.out, decide_eq_true hr.1, show mx (rotTo u t 4) = rotTo u t 4 from if_pos hr.1]
        simp [results, Try.results111, go_sem]
  · have hv0 := of_decide_eq_false hd
    have HG2 := hid (show hitsG k t s = -1 by rw [HG.out, if_pos (by omega)])
    rw [hd] at HU
    clear hd HG HT HI
    go_enter Try.func111, Try.ntmps111
    go_wp2_with fail
    refine (HU.out _).mono ?_
    rintro e w1 ⟨rfl, hb1⟩
    have HB1 := hid (below_of (HB.out _) (by simp) hb1)
    clear hb1 HU
    go_wp2_with fail
    refine bodyPost_ret (v := .tuple #[.bool (decide (0 ≤ hitsG k t s)), .int .u8 (mx (hitsG k t s))]) ?_ rfl ⟨rfl, HB1.out⟩
    rw [HG2.out]
    simp [results, Try.results111, go_sem, mx]
end Go.Proofs.Ytgkgklgeobbmlaa
