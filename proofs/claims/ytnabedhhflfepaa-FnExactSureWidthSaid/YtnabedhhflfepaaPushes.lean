/-
  Which pushes are valid for a valid board; both the program's and the reference's.
  Conditions: the fields are in their kinds' ranges.
-/
import Derived.Test.YtnabedhhflfepaaAt
import Derived.Test.YtnabedhhflfepaaClkA
import Derived.Shelf.Abstract
namespace Go.Proofs.Ytnabedhhflfepaa
open Go.RowKit
set_option linter.unusedSimpArgs false
set_option linter.unusedVariables false

def puOk (p : Pu) : Bool := inB p.s 0 3 && inB p.t 0 1000
def plOk (p : Pu) : Bool := inB p.s 0 3 && (inB p.t 0 1000 && cellIn p.x p.y 24 24)
def onB (xs : List Pc) (p : Pu) : Bool := xs.any (atC p.x p.y)
def pushesOk (xs : List Pc) (ps : List Pu) : Bool := decide (ps.length ≤ 20) && (ps.all puOk && ps.all (onB xs))
theorem onB_in {xs : List Pc} {p : Pu} (hx : ∀ q ∈ xs, cellIn q.x q.y 24 24 = true) (h : onB xs p = true) : cellIn p.x p.y 24 24 = true := by
  unfold onB at h
  rw [List.any_eq_true] at h
  obtain ⟨q, hq, he⟩ := h
  have := hx q hq
  unfold atC at he
  simp only [decide_eq_true_eq] at he
  rw [he.1, he.2] at this
  exact this
theorem all_plOk {xs : List Pc} (hx : ∀ q ∈ xs, cellIn q.x q.y 24 24 = true) : ∀ ps : List Pu, ps.all (onB xs) = true → ps.all plOk = ps.all puOk
  | [], _ => rfl
  | p :: ps, h => by
    rw [List.all_cons, Bool.and_eq_true] at h
    rw [List.all_cons, List.all_cons, all_plOk hx ps h.2]
    have : plOk p = puOk p := by
      unfold plOk puOk
      rw [onB_in hx h.1, Bool.and_true]
    rw [this]
theorem pushesOk_S {xs : List Pc} {ps : List Pu} (hx : ∀ q ∈ xs, cellIn q.x q.y 24 24 = true) : ((ps.all plOk && decide (ps.length ≤ 20)) && ps.all (onB xs)) = pushesOk xs ps := by
  unfold pushesOk
  cases h : ps.all (onB xs) with
  | false => simp
  | true =>
    rw [all_plOk hx ps h]
    cases ps.all puOk <;> cases decide (ps.length ≤ 20) <;> rfl
theorem any_bad2 {α : Type} (p : α → Bool) (ys : List α) : (ys.any fun q => !p q) = !ys.all p := by
  induction ys with
  | nil => rfl
  | cons y l ih => rw [List.any_cons, List.all_cons, ih]; cases p y <;> simp
theorem plain_S (p : Pu) (b o : Nat) (w : World) (hp : p.Ok) (f0 : w.cell? ⟨b, o, none⟩ = some (.int .i8 p.x)) (f1 : w.cell? ⟨b, o + 1, none⟩ = some (.int .i8 p.y)) (f2 : w.cell? ⟨b, o + 2, none⟩ = some (.int .i8 p.s)) (f3 : w.cell? ⟨b, o + 3, none⟩ = some (.int .i16 p.t)) :
    Calls Try.prog 54 #[.pointer (some ⟨b, o, none⟩)] w fun e w' => e = .returned (.bool (plOk p)) ∧ Below w.heap.size w w' := by
  have Hs := hid (fun W => cellIn_S p.x p.y 24 24 W ⟨hp.x0, hp.x1, hp.y0, hp.y1⟩ (by omega))
  obtain ⟨_, _, _, _, h1, h2, h3, h4⟩ := hp
  have hb := World.block_lt_of_cell? w _ f0
  have wt : IntKind.i64.wrap p.t = p.t := IntWalk.i64_in _ (by omega)
  have ws : IntKind.i64.wrap p.s = p.s := IntWalk.i64_in _ (by omega)
  go_enter Try.func54, Try.ntmps54
  go_wp2_with (first | (go_at_call 15; refine (in_S _ _ _ _).mono ?_; rintro e w' ⟨rfl, rfl⟩) | (go_at_call 73; refine (side_S _ _).mono ?_; rintro e w' ⟨rfl, rfl⟩) | (go_at_call 33; refine (Hs.out _).mono ?_; rintro e w' ⟨rfl, hb⟩))
  all_goals go_ret
  all_goals (first | exact ⟨ret_bool (by simp_all [plOk]), by assumption⟩ | exact ⟨ret_bool (by simp_all [plOk]), Below.refl _ _⟩)
set_option maxHeartbeats 400000 in
theorem pushes_S (a : Option Addr) (c : Nat) (xs : List Pu) (w : World) (h : SlA Pu.enc 4 w a xs) (ok : ∀ p ∈ xs, p.Ok) :
    Calls Try.prog 35 #[.slice a xs.length c] w fun e w' => e = .returned (.bool (xs.all plOk && decide (xs.length ≤ 20))) ∧ Below w.heap.size w w' := by
  have sa := h.small
  go_enter Try.func35, Try.ntmps35
  go_wp2_with fail
  go_loopw [3] (fun i wr => ∃ k : Nat, k ≤ xs.length ∧ i = .int .i64 k ∧ (xs.take k).all plOk = true ∧ Below w.heap.size w wr) (fun i _ => xs.length - (intOf i).toNat)
  case atStart => exact ⟨0, Nat.zero_le _, rfl, rfl, Below.refl _ _⟩
  case round =>
    obtain ⟨k, hk, rfl, ht, hbl⟩ := hrel
    by_cases hlt : k < xs.length
    · obtain ⟨b1, o1, rfl, hb1, hc1⟩ := h.cells (by omega)
      have e1 : xs[k]? = some xs[k] := List.getElem?_eq_getElem hlt
      have okp : xs[k].Ok := ok _ (List.getElem_mem hlt)
      have Hp := hid e1
      have HT := hid ht
      clear ht e1
      generalize xs[k] = p at *
      have f0 : wr.cell? ⟨b1, o1 + k * 4, none⟩ = some (.int .i8 p.x) := (hbl.cell (p := ⟨b1, _, none⟩) hb1).trans (hc1 k _ Hp.out 0 _ rfl)
      have f1 : wr.cell? ⟨b1, o1 + k * 4 + 1, none⟩ = some (.int .i8 p.y) := (hbl.cell (p := ⟨b1, _, none⟩) hb1).trans (hc1 k _ Hp.out 1 _ rfl)
      have f2 : wr.cell? ⟨b1, o1 + k * 4 + 2, none⟩ = some (.int .i8 p.s) := (hbl.cell (p := ⟨b1, _, none⟩) hb1).trans (hc1 k _ Hp.out 2 _ rfl)
      have f3 : wr.cell? ⟨b1, o1 + k * 4 + 3, none⟩ = some (.int .i16 p.t) := (hbl.cell (p := ⟨b1, _, none⟩) hb1).trans (hc1 k _ Hp.out 3 _ rfl)
      have Hs := hid (plain_S p b1 (o1 + k * 4) wr okp f0 f1 f2 f3)
      obtain ⟨r, hr⟩ : ∃ r, plOk p = r := ⟨_, rfl⟩
      rw [hr] at Hs
      have Hr := hid hr
      clear hr hc1 okp f0 f1 f2 f3
      cases r
      · go_wp2_with fail
        refine Hs.out.mono ?_
        rintro e w1 ⟨rfl, hb9⟩
        go_wp2_with fail
        go_ret
        refine ⟨ret_bool ?_, below_of hbl hbl.size hb9⟩
        have : xs.all plOk = false := by
          rw [List.all_eq_false]
          exact ⟨p, List.mem_of_getElem? Hp.out, by rw [Hr.out]; simp⟩
        rw [this]; rfl
      · go_wp2_with fail
        refine Hs.out.mono ?_
        rintro e w1 ⟨rfl, hb9⟩
        go_wp2_with fail
        refine ⟨⟨k + 1, by omega, by go_num, ?_, below_of hbl hbl.size hb9⟩, by simp [intOf]; omega⟩
        rw [List.take_add_one, Hp.out, List.all_append, HT.out]
        simp [Hr.out]
    · obtain rfl : k = xs.length := by omega
      have HT := hid ht
      clear ht
      go_wp2_with fail
      go_ret
      refine ⟨ret_bool ?_, hbl⟩
      have := HT.out
      rw [List.take_length] at this
      rw [this, Bool.true_and, decide_eq_decide]; omega
set_option maxHeartbeats 400000 in
theorem l02Ok_S (b : Nat) (wi hi : Int) (a : Option Addr) (c : Nat) (xs : List Pc) (al : Option Addr) (cl : Nat) (ps : List Pu) (w : World) (hb : BdA w b wi hi a xs.length c) (h : SlA Pc.enc 5 w a xs) (hp : SlA Pu.enc 4 w al ps) (ok : ∀ p ∈ ps, p.Ok) :
    Calls Try.prog 14 #[.pointer (some ⟨b, 0, none⟩), .slice al ps.length cl] w fun e w' => e = .returned (.bool ((ps.all plOk && decide (ps.length ≤ 20)) && ps.all (onB xs))) ∧ Below w.heap.size w w' := by
  have sa := hp.small
  have H1 := hid (pushes_S al cl ps w hp ok)
  obtain ⟨q, hq⟩ : ∃ q, (ps.all plOk && decide (ps.length ≤ 20)) = q := ⟨_, rfl⟩
  rw [hq] at H1 ⊢
  clear hq
  cases q
  · go_enter Try.func14, Try.ntmps14
    go_wp2_with fail
    refine H1.out.mono ?_
    rintro e w1 ⟨rfl, hb1⟩
    go_wp2_with fail
    go_ret
    exact ⟨rfl, hb1⟩
  · go_enter Try.func14, Try.ntmps14
    go_wp2_with fail
    refine H1.out.mono ?_
    rintro e w1 ⟨rfl, hb1⟩
    go_wp2_with fail
    go_loopw [5] (fun i wr => ∃ k : Nat, k ≤ ps.length ∧ i = .int .i64 k ∧ (ps.take k).all (onB xs) = true ∧ Below w.heap.size w wr) (fun i _ => ps.length - (intOf i).toNat)
    case atStart => exact ⟨0, Nat.zero_le _, rfl, rfl, hb1⟩
    case round =>
      obtain ⟨k, hk, rfl, ht, hbl⟩ := hrel
      by_cases hlt : k < ps.length
      · obtain ⟨b1, o1, rfl, hb1', hc1⟩ := (hp.below hbl).cells (by omega)
        have e1 : ps[k]? = some ps[k] := List.getElem?_eq_getElem hlt
        have Hp := hid e1
        have HT := hid ht
        clear ht e1
        generalize ps[k] = p at *
        have f0 : wr.cell? ⟨b1, o1 + k * 4, none⟩ = some (.int .i8 p.x) := hc1 k _ Hp.out 0 _ rfl
        have f1 : wr.cell? ⟨b1, o1 + k * 4 + 1, none⟩ = some (.int .i8 p.y) := hc1 k _ Hp.out 1 _ rfl
        have Hs := hid (find_S b wi hi a c xs p.x p.y wr (hb.below hbl hb.lt) (h.below hbl))
        have hge := idxOf_ge (atC p.x p.y) xs
        generalize idxOf (atC p.x p.y) xs = v at *
        obtain ⟨r, hr⟩ : ∃ r, onB xs p = r := ⟨_, rfl⟩
        have hge2 : decide (v < 0) = !r := by
          rw [← hr]; unfold onB; rw [← hge]
          by_cases h0 : 0 ≤ v
          · rw [decide_eq_true h0, decide_eq_false (by omega)]; rfl
          · rw [decide_eq_false h0, decide_eq_true (by omega)]; rfl
        have Hr := hid hr
        clear hr hc1 hge
        cases r
        · go_wp2_with fail
          refine Hs.out.mono ?_
          rintro e w1 ⟨rfl, hb9⟩
          go_wp2_with fail
          go_ret
          refine ⟨ret_bool ?_, below_of hbl hbl.size hb9⟩
          rw [eq_comm, Bool.true_and, List.all_eq_false]
          exact ⟨p, List.mem_of_getElem? Hp.out, by rw [Hr.out]; simp⟩
        · go_wp2_with fail
          refine Hs.out.mono ?_
          rintro e w1 ⟨rfl, hb9⟩
          go_wp2_with fail
          refine ⟨⟨k + 1, by omega, by go_num, ?_, below_of hbl hbl.size hb9⟩, by simp [intOf]; omega⟩
          rw [List.take_add_one, Hp.out, List.all_append, HT.out]
          simp [Hr.out]
      · obtain rfl : k = ps.length := by omega
        have HT := hid ht
        clear ht
        go_wp2_with fail
        go_ret
        refine ⟨ret_bool ?_, hbl⟩
        have := HT.out
        rw [List.take_length] at this
        rw [this]; rfl
theorem pushOk_I (p : Pu) (w : World) (hp : p.Ok) :
    Calls Try.prog 62 #[.agg p.enc.toArray] w fun e w' => e = .returned (.bool (puOk p)) ∧ Below w.heap.size w w' := by
  obtain ⟨x, y, s, t⟩ := p
  obtain ⟨_, _, _, _, h1, h2, h3, h4⟩ := hp
  simp only [Pu.enc] at *
  have wt : IntKind.i64.wrap t = t := IntWalk.i64_in _ (by omega)
  have ws : IntKind.i64.wrap s = s := IntWalk.i64_in _ (by omega)
  go_enter Try.func62, Try.ntmps62
  go_wp2_with (first | (go_at_call 48; refine (in_I _ _ _ _).mono ?_; rintro e w' ⟨rfl, rfl⟩) | (go_at_call 79; refine (side_I _ _).mono ?_; rintro e w' ⟨rfl, rfl⟩))
  all_goals go_ret
  all_goals exact ⟨ret_bool (by simp_all [puOk]), (Below.refl _ _).alloc (Nat.le_refl _) _⟩
theorem badPush_I (p : Pu) (w : World) (hp : p.Ok) :
    Calls Try.prog 45 #[.agg p.enc.toArray] w fun e w' => e = .returned (.bool (!puOk p)) ∧ Below w.heap.size w w' := by
  have Hs := hid (fun w => pushOk_I p w hp)
  obtain ⟨x, y, s, t⟩ := p
  simp only [Pu.enc] at *
  generalize puOk ⟨x, y, s, t⟩ = r at *
  go_enter Try.func45, Try.ntmps45
  go_wp2_with (go_at_call 62; refine (Hs.out _).mono ?_; rintro e w' ⟨rfl, hb⟩)
  go_ret
  exact ⟨rfl, below_of ((Below.refl _ _).alloc (Nat.le_refl _) _) (by simp) hb⟩
set_option maxRecDepth 100000 in
set_option maxHeartbeats 400000 in
/-- IndexFunc over pushes, whatever the function and what it has caught. -/
theorem idx_Pu (F : Nat) (he : ∀ args W, (callFunc F args).run Try.prog W = .ok (.enter F args) W) (cs : Array Value) (P : Pu → Bool) (a : Option Addr) (c : Nat) (xs : List Pu) (w : World) (h : SlA Pu.enc 4 w a xs) (HF : ∀ p ∈ xs, ∀ W, Below w.heap.size w W → Calls Try.prog F (#[.agg p.enc.toArray] ++ cs) W fun e w' => e = .returned (.bool (P p)) ∧ Below W.heap.size W w') :
    Calls Try.prog 61 #[.slice a xs.length c, .func (.func F) #[] cs] w fun e w' => e = .returned (.int .i64 (idxOf P xs)) ∧ Below w.heap.size w w' := by
  have sa := h.small
  have HF := hid HF
  go_enter Try.func61, Try.ntmps61
  go_wp2_with fail
  go_loopw [8] (fun i wr => ∃ k : Nat, k ≤ xs.length ∧ i = .int .i64 k ∧ (xs.take k).any P = false ∧ Below w.heap.size w wr) (fun i _ => xs.length - (intOf i).toNat)
  case atStart => exact ⟨0, Nat.zero_le _, rfl, rfl, Below.refl _ _⟩
  case round =>
    obtain ⟨k, hk, rfl, ht, hbl⟩ := hrel
    by_cases hlt : k < xs.length
    · obtain ⟨b1, o1, rfl, hb1, hc1⟩ := (h.below hbl).cells (by omega)
      have e1 : xs[k]? = some xs[k] := List.getElem?_eq_getElem hlt
      have Hs := hid (HF.out _ (List.getElem_mem hlt) wr hbl)
      have Hp := hid e1
      have HT := hid ht
      clear ht e1
      generalize xs[k] = p at *
      obtain ⟨r, hr⟩ : ∃ r, P p = r := ⟨_, rfl⟩
      rw [hr] at Hs
      have Hr := hid hr
      have f0 : wr.cell? ⟨b1, o1 + k * 4, none⟩ = some (.int .i8 p.x) := hc1 k _ Hp.out 0 _ rfl
      have f1 : wr.cell? ⟨b1, o1 + k * 4 + 1, none⟩ = some (.int .i8 p.y) := hc1 k _ Hp.out 1 _ rfl
      have f2 : wr.cell? ⟨b1, o1 + k * 4 + 2, none⟩ = some (.int .i8 p.s) := hc1 k _ Hp.out 2 _ rfl
      have f3 : wr.cell? ⟨b1, o1 + k * 4 + 3, none⟩ = some (.int .i16 p.t) := hc1 k _ Hp.out 3 _ rfl
      clear hr hc1
      cases r
      · go_wp2_with fail
        refine Hs.out.mono ?_
        rintro e w1 ⟨rfl, hb9⟩
        go_wp2_with fail
        exact ⟨⟨k + 1, by omega, by go_num, any_step HT.out Hp.out Hr.out, below_of hbl hbl.size hb9⟩, by simp [intOf]; omega⟩
      · go_wp2_with fail
        refine Hs.out.mono ?_
        rintro e w1 ⟨rfl, hb9⟩
        go_wp2_with fail
        go_ret
        exact ⟨ret_int (idxOf_at HT.out Hp.out Hr.out).symm, below_of hbl hbl.size hb9⟩
    · obtain rfl : k = xs.length := by omega
      have HT := hid ht
      clear ht
      go_wp2_with fail
      go_ret
      refine ⟨ret_int ?_, hbl⟩
      have := HT.out
      rw [List.take_length] at this
      exact (idxOf_none this).symm
theorem has_Pu (F : Nat) (he : ∀ args W, (callFunc F args).run Try.prog W = .ok (.enter F args) W) (cs : Array Value) (P : Pu → Bool) (a : Option Addr) (c : Nat) (xs : List Pu) (w : World) (h : SlA Pu.enc 4 w a xs) (HF : ∀ p ∈ xs, ∀ W, Below w.heap.size w W → Calls Try.prog F (#[.agg p.enc.toArray] ++ cs) W fun e w' => e = .returned (.bool (P p)) ∧ Below W.heap.size W w') :
    Calls Try.prog 44 #[.slice a xs.length c, .func (.func F) #[] cs] w fun e w' => e = .returned (.bool (xs.any P)) ∧ Below w.heap.size w w' := by
  have Hs := hid (idx_Pu F he cs P a c xs w h HF)
  have Hr := hid (idxOf_ge P xs)
  have hl := h.small
  have hm := idxOf_le P xs
  clear h HF
  generalize idxOf P xs = q at *
  go_enter Try.func44, Try.ntmps44
  go_wp2_with fail
  refine Hs.out.mono ?_
  rintro e w1 ⟨rfl, hb⟩
  go_wp2_with fail
  go_ret
  exact ⟨ret_bool Hr.out, hb⟩
theorem off_I (p : Pu) (b : Nat) (wi hi : Int) (a : Option Addr) (c : Nat) (xs : List Pc) (w : World) (hb : BdA w b wi hi a xs.length c) (h : SlA Pc.enc 5 w a xs) :
    Calls Try.prog 46 #[.agg p.enc.toArray, .pointer (some ⟨b, 0, none⟩)] w fun e w' => e = .returned (.bool (!onB xs p)) ∧ Below w.heap.size w w' := by
  have B0 : ∀ o, Below w.heap.size w (w.alloc o) := fun o => (Below.refl _ _).alloc (Nat.le_refl _) _
  have Hs := hid (fun o => at_I b wi hi a c xs p.x p.y (w.alloc o) (hb.below (B0 o) hb.lt) (h.below (B0 o)))
  have HB := hid B0
  have hge := idxOf_ge (atC p.x p.y) xs
  obtain ⟨x, y, s, t⟩ := p
  simp only [Pu.enc] at *
  have hge2 : decide (idxOf (atC x y) xs < 0) = !onB xs ⟨x, y, s, t⟩ := by
    unfold onB; dsimp only; rw [← hge]
    by_cases h0 : 0 ≤ idxOf (atC x y) xs
    · rw [decide_eq_true h0, decide_eq_false (by omega)]; rfl
    · rw [decide_eq_false h0, decide_eq_true (by omega)]; rfl
  generalize idxOf (atC x y) xs = v at *
  generalize onB xs ⟨x, y, s, t⟩ = r at *
  clear hge B0
  go_enter Try.func46, Try.ntmps46
  go_wp2_with fail
  refine (Hs.out _).mono ?_
  rintro e w1 ⟨rfl, hb1⟩
  go_wp2_with fail
  go_ret
  exact ⟨rfl, below_of (HB.out _) (by simp) hb1⟩
set_option maxHeartbeats 400000 in
theorem ValidPushes_I (wi hi : Int) (a : Option Addr) (c : Nat) (xs : List Pc) (al : Option Addr) (cl : Nat) (ps : List Pu) (w : World) (rw_ : -128 ≤ wi ∧ wi ≤ 127 ∧ -128 ≤ hi ∧ hi ≤ 127) (h : SlA Pc.enc 5 w a xs) (ok : ∀ p ∈ xs, p.Ok) (hp : SlA Pu.enc 4 w al ps) (okp : ∀ p ∈ ps, p.Ok) :
    Calls Try.prog 24 #[.agg #[.int .i8 wi, .int .i8 hi, .slice a xs.length c], .slice al ps.length cl] w fun e w' => e = .returned (.bool (bdOk wi hi xs && pushesOk xs ps)) ∧ Below w.heap.size w w' := by
  obtain ⟨W0, hW0⟩ : ∃ W, W = w.alloc (.cells #[.int .i8 wi, .int .i8 hi, .slice a xs.length c] 33) := ⟨_, rfl⟩
  have B0 : Below w.heap.size w W0 := by rw [hW0]; exact (Below.refl _ _).alloc (Nat.le_refl _) _
  have hbd : BdA W0 w.heap.size wi hi a xs.length c := by rw [hW0]; exact ⟨by simp, by simp [go_sem], by simp [go_sem], by simp [go_sem]⟩
  have sp := hp.small
  have Ha := hid (ValidBoard_I wi hi a c xs W0 rw_ (h.below B0) ok)
  have Hb := hid (fun W (hB : Below w.heap.size w W) => has_Pu 45 (enters_of Try.func45 (by kernel_rfl) rfl) #[] (fun p => !puOk p) al cl ps W (hp.below hB) (fun p hm W' _ => badPush_I p W' (okp p hm)))
  have Hc := hid (fun W (hB : Below W0.heap.size W0 W) => has_Pu 46 (enters_of Try.func46 (by kernel_rfl) rfl) #[.pointer (some ⟨w.heap.size, 0, none⟩)] (fun p => !onB xs p) al cl ps W (hp.below (below_of B0 B0.size hB)) (fun p hm W' hB2 => off_I p w.heap.size wi hi a c xs W' (hbd.below (below_then hB hB2) hbd.lt) ((h.below B0).below (below_then hB hB2))))
  simp only [any_bad2] at Hb Hc
  obtain ⟨d1, hd1⟩ : ∃ d1 : Bool, bdOk wi hi xs = d1 := ⟨_, rfl⟩
  obtain ⟨d2, hd2⟩ : ∃ d2 : Bool, decide (ps.length ≤ 20) = d2 := ⟨_, rfl⟩
  obtain ⟨d3, hd3⟩ : ∃ d3 : Bool, ps.all puOk = d3 := ⟨_, rfl⟩
  obtain ⟨d4, hd4⟩ : ∃ d4 : Bool, ps.all (onB xs) = d4 := ⟨_, rfl⟩
  have e20 : decide ((ps.length : Int) > 20) = !d2 := by
    rw [← hd2]
    by_cases h0 : ps.length ≤ 20
    · rw [decide_eq_true h0, decide_eq_false (by omega)]; rfl
    · rw [decide_eq_false h0, decide_eq_true (by omega)]; rfl
  rw [hd1] at Ha
  rw [hd3] at Hb
  rw [hd4] at Hc
  have HG := hid (show (bdOk wi hi xs && pushesOk xs ps) = (d1 && (d2 && (d3 && d4))) by unfold pushesOk; rw [hd1, hd2, hd3, hd4])
  have k0 := hbd.c0
  have k1 := hbd.c1
  have k2 := hbd.c2
  have hl0 := hbd.lt
  have HB0 := hid B0
  clear hd1 hd2 hd3 hd4 hbd B0
  go_enter Try.func24, Try.ntmps24
  go_wp2_with fail
  rw [← hW0]
  clear hW0
  refine Ha.out.mono ?_
  rintro e w1 ⟨rfl, hb1⟩
  have B1 := below_of HB0.out HB0.out.size hb1
  cases d1
  · go_wp2_with fail
    go_ret
    exact ⟨ret_bool (by rw [HG.out]; rfl), B1⟩
  · cases d2
    · go_wp2_with fail
      go_ret
      exact ⟨ret_bool (by rw [HG.out]; rfl), B1⟩
    · go_wp2_with fail
      refine (Hb.out _ B1).mono ?_
      rintro e w2 ⟨rfl, hb2⟩
      have B2 := below_of B1 B1.size hb2
      cases d3
      · go_wp2_with fail
        go_ret
        exact ⟨ret_bool (by rw [HG.out]; rfl), B2⟩
      · go_wp2_with fail
        refine (Hc.out _ (below_then hb1 hb2)).mono ?_
        rintro e w3 ⟨rfl, hb3⟩
        go_wp2_with fail
        go_ret
        exact ⟨ret_bool (by rw [HG.out]; simp), below_of B2 B2.size hb3⟩
end Go.Proofs.Ytnabedhhflfepaa
