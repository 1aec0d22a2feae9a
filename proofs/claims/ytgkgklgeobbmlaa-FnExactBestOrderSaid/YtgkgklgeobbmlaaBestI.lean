/-
  Plain law: all orders of a few numbers, and the one that lays the fewest pieces.
  The program's orders: it hands all orders of a few numbers to a function, in order.
  slices.ContainsFunc at ways; what BestOrder does with an order; BestOrder: the program's.
  Conditions: none; plain law. at most five numbers; what the function does to the search's two boxes. the board's and the ways' numbers are of their types; lengths.
-/
import Derived.Test.YtgkgklgeobbmlaaAllK
namespace Go.Proofs.Ytgkgklgeobbmlaa
open Go.RowKit
set_option linter.unusedSimpArgs false
set_option linter.unusedVariables false

/-- The lists that go on a list by one number that it lacks; the numbers from a start. -/
def extF (n : Nat) (o : List Int) (i : Nat) : List (List Int) := (List.range' i (n - i)).flatMap fun (x : Nat) => if o.any (isN (x : Int)) = true then [] else [o ++ [(x : Int)]]
def extG (n : Nat) (o : List Int) : List (List Int) := extF n o 0
/-- So many rounds of it. -/
def levG (n : Nat) : Nat → List (List Int) → List (List Int)
  | 0, xs => xs
  | r + 1, xs => levG n r (xs.flatMap (extG n))
theorem extF_end {n : Nat} (o : List Int) : extF n o n = [] := by unfold extF; rw [Nat.sub_self]; rfl
theorem extF_old {n i : Nat} {o : List Int} (hi : i < n) (h : o.any (isN (i : Int)) = true) : extF n o i = extF n o (i + 1) := by
  unfold extF
  rw [show n - i = n - (i + 1) + 1 by omega, List.range'_succ, List.flatMap_cons, if_pos h]
  rfl
theorem extF_new {n i : Nat} {o : List Int} (hi : i < n) (h : o.any (isN (i : Int)) = false) : extF n o i = (o ++ [(i : Int)]) :: extF n o (i + 1) := by
  unfold extF
  rw [show n - i = n - (i + 1) + 1 by omega, List.range'_succ, List.flatMap_cons, if_neg (by rw [h]; decide)]
  rfl
theorem lev_succ (n : Nat) : ∀ (r : Nat) (xs : List (List Int)), levG n (r + 1) xs = (levG n r xs).flatMap (extG n)
  | 0, _ => rfl
  | r + 1, xs => lev_succ n r (xs.flatMap (extG n))
theorem lev_nil (n : Nat) : ∀ r : Nat, levG n r [] = []
  | 0 => rfl
  | r + 1 => lev_nil n r
theorem lev_app (n : Nat) : ∀ (r : Nat) (xs ys : List (List Int)), levG n r (xs ++ ys) = levG n r xs ++ levG n r ys
  | 0, _, _ => rfl
  | r + 1, xs, ys => by
    show levG n r ((xs ++ ys).flatMap (extG n)) = _
    rw [List.flatMap_append]
    exact lev_app n r _ _
/-- A list of numbers that are indices, so many. -/
def OrdK (n k : Nat) (o : List Int) : Prop := o.length = k ∧ ∀ i ∈ o, 0 ≤ i ∧ i < (n : Int)
theorem ordK_ext {n k i : Nat} {o : List Int} (h : OrdK n k o) (hi : i < n) : OrdK n (k + 1) (o ++ [(i : Int)]) := by
  refine ⟨by rw [List.length_append, h.1]; rfl, fun j hj => ?_⟩
  rcases List.mem_append.1 hj with hj | hj
  · exact h.2 j hj
  · rw [List.mem_singleton.1 hj]; omega
theorem extF_ok {n k i : Nat} {o : List Int} (h : OrdK n k o) : ∀ q ∈ extF n o i, OrdK n (k + 1) q := by
  intro q hq
  unfold extF at hq
  obtain ⟨x, hx, hq⟩ := List.mem_flatMap.1 hq
  rw [List.mem_range'_1] at hx
  split at hq
  · cases hq
  · rw [List.mem_singleton.1 hq]
    exact ordK_ext h (by omega)
theorem lev_ok {n : Nat} : ∀ (r : Nat) {k : Nat} {xs : List (List Int)}, (∀ o ∈ xs, OrdK n k o) → ∀ o ∈ levG n r xs, OrdK n (k + r) o
  | 0, _, _, h => h
  | r + 1, k, xs, h => by
    intro o ho
    have := lev_ok r (k := k + 1) (xs := xs.flatMap (extG n)) (fun q hq => by
      obtain ⟨o2, h2, h3⟩ := List.mem_flatMap.1 hq
      exact extF_ok (h o2 h2) q h3) o ho
    rw [show k + (r + 1) = k + 1 + r by omega]
    exact this
theorem flat_len {α β : Type} {f : α → List β} {n : Nat} : ∀ (xs : List α), (∀ x ∈ xs, (f x).length ≤ n) → (xs.flatMap f).length ≤ xs.length * n
  | [], _ => Nat.zero_le _
  | x :: xs, h => by
    rw [List.flatMap_cons, List.length_append, List.length_cons, Nat.add_mul, Nat.one_mul]
    have h1 := h x List.mem_cons_self
    have h2 := flat_len xs (fun y hy => h y (List.mem_cons_of_mem _ hy))
    omega
theorem extF_len (n : Nat) (o : List Int) (i : Nat) : (extF n o i).length ≤ n := by
  unfold extF
  have := flat_len (f := fun x : Nat => if o.any (isN (x : Int)) = true then [] else [o ++ [(x : Int)]]) (n := 1) (List.range' i (n - i)) (fun x _ => by split <;> simp)
  rw [List.length_range'] at this
  omega
theorem lev_len (n : Nat) : ∀ (r : Nat) (xs : List (List Int)), (levG n r xs).length ≤ xs.length * n ^ r
  | 0, xs => by rw [Nat.pow_zero, Nat.mul_one]; exact Nat.le_refl _
  | r + 1, xs => by
    have h1 := lev_len n r (xs.flatMap (extG n))
    have h2 := flat_len (f := extG n) (n := n) xs (fun o _ => extF_len n o 0)
    have h3 : (xs.flatMap (extG n)).length * n ^ r ≤ xs.length * n * n ^ r := Nat.mul_le_mul_right _ h2
    rw [Nat.pow_succ, Nat.mul_comm (n ^ r) n, ← Nat.mul_assoc]
    exact Nat.le_trans h1 h3
theorem lev_small {n k : Nat} (hn : n ≤ 5) (hk : k ≤ n) : (levG n k [[]]).length ≤ 3125 := by
  have h := lev_len n k [[]]
  have h2 : n ^ k ≤ 5 ^ 5 := Nat.le_trans (Nat.pow_le_pow_left hn k) (Nat.pow_le_pow_right (by decide) (by omega))
  rw [List.length_singleton, Nat.one_mul] at h
  exact Nat.le_trans h h2
/-- Folding over the orders behind a list, by its next number from a start. -/
def dfsF {σ : Type} (f : σ → List Int → σ) (n r : Nat) (now : List Int) (st : σ) (i : Nat) : σ := (levG n r (extF n now i)).foldl f st
theorem dfs_end {σ : Type} {f : σ → List Int → σ} {n r : Nat} {now : List Int} {st : σ} : dfsF f n r now st n = st := by
  unfold dfsF; rw [extF_end, lev_nil]; rfl
theorem dfs_old {σ : Type} {f : σ → List Int → σ} {n r i : Nat} {now : List Int} {st : σ} (hi : i < n) (h : now.any (isN (i : Int)) = true) : dfsF f n r now st i = dfsF f n r now st (i + 1) := by
  unfold dfsF; rw [extF_old hi h]
theorem dfs_new {σ : Type} {f : σ → List Int → σ} {n r i : Nat} {now : List Int} {st : σ} (hi : i < n) (h : now.any (isN (i : Int)) = false) : dfsF f n r now st i = dfsF f n r now ((levG n r [now ++ [(i : Int)]]).foldl f st) (i + 1) := by
  unfold dfsF
  rw [extF_new hi h, show (now ++ [(i : Int)]) :: extF n now (i + 1) = [now ++ [(i : Int)]] ++ extF n now (i + 1) from rfl, lev_app, List.foldl_append]
theorem dfs_lev {σ : Type} {f : σ → List Int → σ} {n r : Nat} {now : List Int} {st : σ} : (levG n (r + 1) [now]).foldl f st = dfsF f n r now st 0 := by
  unfold dfsF
  show (levG n r ([now].flatMap (extG n))).foldl f st = _
  rw [List.flatMap_cons, List.flatMap_nil, List.append_nil]
  rfl
/-- The ways in an order. -/
def selW (ws : List Wy) (os : List Int) : List Wy := os.map (fun i => ws.getD i.toNat ⟨0, 0, 0, 0, 0, 0⟩)
/-- The best order so far ([]: none) and what it lays. -/
def bstG (wi hi : Int) (xs : List Pc) (ws : List Wy) (st : List Int × Int) (o : List Int) : List Int × Int :=
  if (allG wi hi xs (selW ws o)).2 = 0 then (if st.1 = [] ∨ ((allG wi hi xs (selW ws o)).1.2.2.length : Int) - xs.length < st.2 then (o, ((allG wi hi xs (selW ws o)).1.2.2.length : Int) - xs.length) else st) else st
theorem all_ge {wi hi : Int} : ∀ (ws : List Wy) {xs : List Pc}, bdOk wi hi xs = true → (allG wi hi xs ws).2 = 0 → xs.length ≤ (allG wi hi xs ws).1.2.2.length
  | [], xs, _, _ => Nat.le_refl _
  | w :: ws, xs, hb, h => by
    rw [all_step] at h ⊢
    by_cases hw : wayB wi hi xs w = true
    · rw [if_pos hw] at h ⊢
      by_cases h0 : (lineG wi hi xs w).2 = 0
      · rw [if_pos h0] at h ⊢
        have h1 := all_ge ws (lay_bd hb hw h0).1 h
        obtain ⟨P, _, h2, _, _⟩ := lay_ok hb hw h0
        have h3 : (lineG wi hi xs w).1.2.2 = xs ++ lineL P w.sd w.ou := by rw [h2]
        have h4 : (lineG wi hi xs w).1.2.2.length = xs.length + (lineL P w.sd w.ou).length := by rw [h3, List.length_append]
        omega
      · rw [if_neg h0] at h
        exact absurd h h0
    · rw [if_neg hw] at h
      exact absurd (show (1 : Int) = 0 from h) (by decide)
def BestOrderG (wi hi : Int) (xs : List Pc) (ws : List Wy) : List Int × Int × Int :=
  if bdOk wi hi xs = true then (if 1 ≤ ws.length ∧ ws.length ≤ 5 then (if ws.all (wayB wi hi xs) = true then
    (if ((levG ws.length ws.length [[]]).foldl (bstG wi hi xs ws) ([], 0)).1 = [] then ([], 0, 6) else (((levG ws.length ws.length [[]]).foldl (bstG wi hi xs ws) ([], 0)).1, ((levG ws.length ws.length [[]]).foldl (bstG wi hi xs ws) ([], 0)).2, 0))
    else ([], 0, 1)) else ([], 0, 2)) else ([], 0, 1)
/-- What the search holds is an order, and a number of pieces. -/
def BstOk (n : Nat) (st : List Int × Int) : Prop := (st.1 = [] ∧ st.2 = 0 ∨ OrdK n n st.1) ∧ 0 ≤ st.2 ∧ st.2 ≤ 200
theorem bst_ok {wi hi : Int} {xs : List Pc} {ws : List Wy} (hb : bdOk wi hi xs = true) {n : Nat} {st : List Int × Int} {o : List Int} (h : BstOk n st) (ho : OrdK n n o) : BstOk n (bstG wi hi xs ws st o) := by
  unfold bstG
  split
  · rename_i h0
    split
    · have h1 := all_ge (selW ws o) hb h0
      have h2 := all_len (wi := wi) (hi := hi) (selW ws o) hb
      exact ⟨.inr ho, by show (0 : Int) ≤ _ - _; omega, by show _ - _ ≤ (200 : Int); omega⟩
    · exact h
  · exact h
theorem bst_fold {wi hi : Int} {xs : List Pc} {ws : List Wy} (hb : bdOk wi hi xs = true) {n : Nat} : ∀ (os : List (List Int)) {st : List Int × Int}, (∀ o ∈ os, OrdK n n o) → BstOk n st → BstOk n (os.foldl (bstG wi hi xs ws) st)
  | [], _, _, h => h
  | o :: os, st, ho, h => bst_fold hb os (fun q hq => ho q (List.mem_cons_of_mem _ hq)) (bst_ok hb h (ho o List.mem_cons_self))
theorem best_len (wi hi : Int) (xs : List Pc) (ws : List Wy) : (BestOrderG wi hi xs ws).1.length ≤ 5 := by
  unfold BestOrderG
  split
  · rename_i hb
    split
    · rename_i hn
      split
      · have h := bst_fold (ws := ws) hb (n := ws.length) (levG ws.length ws.length [[]]) (st := ([], 0)) (fun o ho => by
          have := lev_ok (n := ws.length) ws.length (k := 0) (xs := [[]]) (fun q hq => by rw [List.mem_singleton.1 hq]; exact ⟨rfl, fun i hi => by cases hi⟩) o ho
          rwa [Nat.zero_add] at this) ⟨.inl ⟨rfl, rfl⟩, by decide, by decide⟩
        split
        · exact Nat.zero_le _
        · rename_i hne
          rcases h.1 with h1 | h1
          · exact absurd h1.1 hne
          · show List.length _ ≤ 5
            rw [h1.1]; exact hn.2
      · exact Nat.zero_le _
    · exact Nat.zero_le _
  · exact Nat.zero_le _
/-- Nothing is written but the blocks X, .., X+n-1 and what is new. -/
structure Frm (X n : Nat) (W W' : World) : Prop where
  os : W'.os = W.os
  tape : W'.tape = W.tape
  output : W'.output = W.output
  size : W.heap.size ≤ W'.heap.size
  block : ∀ k, k < W.heap.size → (k < X ∨ X + n ≤ k) → W'.heap[k]? = W.heap[k]?
theorem Frm.refl (X n : Nat) (W : World) : Frm X n W W := ⟨rfl, rfl, rfl, Nat.le_refl _, fun _ _ _ => rfl⟩
theorem Frm.trans {X n : Nat} {a b c : World} (h : Frm X n a b) (k : Frm X n b c) : Frm X n a c :=
  ⟨k.os.trans h.os, k.tape.trans h.tape, k.output.trans h.output, Nat.le_trans h.size k.size, fun i hi hx => (k.block i (Nat.lt_of_lt_of_le hi h.size) hx).trans (h.block i hi hx)⟩
theorem Frm.of_below {X n : Nat} {W W' : World} (h : Below W.heap.size W W') : Frm X n W W' := ⟨h.os, h.tape, h.output, h.size, fun k hk _ => h.block k hk⟩
theorem Frm.store {X n i j : Nat} (W : World) (v : Value) (hi : i < n) : Frm X n W (W.setCell ⟨X + i, j, none⟩ v) := by
  have G := setCell_grownE W (X + i) j v
  exact ⟨G.os, G.tape, G.output, G.size, fun k hk hx => G.block k hk (fun e => by cases e; omega)⟩
theorem Frm.down {X n : Nat} {Wb W W' : World} (h : Below X Wb W) (f : Frm X n W W') (hX : X ≤ W.heap.size) : Below X Wb W' :=
  h.trans ⟨f.os, f.tape, f.output, f.size, fun k hk => f.block k (Nat.lt_of_lt_of_le hk hX) (.inl hk)⟩
theorem Frm.own {X n : Nat} {W W' : World} {e : TypeId} {size : Nat} {v : Value} {k : Nat} {l : List Value} (f : Frm X n W W') (h : W.ownsRow (X + n) e size v k l) : W'.ownsRow (X + n) e size v k l := by
  refine ⟨h.1, ?_⟩
  rcases h.2 with h1 | ⟨g, cap, cur, h1, h2, h3, h4⟩
  · exact .inl h1
  · exact .inr ⟨g, cap, cur, h1, h2, (f.block g (Array.getElem?_eq_some_iff.1 h3).1 (.inr h2)).trans h3, h4⟩
/-- The search's two boxes: the best order ([]: none), what it lays. -/
structure SxB (Wb W : World) (st : List Int × Int) : Prop where
  below : Below Wb.heap.size Wb W
  lt : Wb.heap.size + 2 ≤ W.heap.size
  cb : ∃ A c, W.cell? ⟨Wb.heap.size, 0, none⟩ = some (.slice A st.1.length c) ∧ W.ownsRow (Wb.heap.size + 2) 2 1 (.slice A st.1.length c) st.1.length (st.1.flatMap en1) ∧ (st.1 = [] → A = none ∧ c = 0)
  cl : W.cell? ⟨Wb.heap.size + 1, 0, none⟩ = some (.int .i64 st.2)
  fz : ∀ i j, i < 2 → W.frozen? ⟨Wb.heap.size + i, j, none⟩ = false
theorem SxB.later {Wb W W1 : World} {st : List Int × Int} (h : SxB Wb W st) (hb : Below W.heap.size W W1) : SxB Wb W1 st := by
  obtain ⟨A, c, h1, h2, h3⟩ := h.cb
  exact ⟨below_of h.below h.below.size hb, Nat.le_trans h.lt hb.size, ⟨A, c, cell_on hb h1, own_step h2 hb, h3⟩, cell_on hb h.cl, fun i j hi => (hb.frozen (p := ⟨_, j, none⟩) (by have := h.lt; show Wb.heap.size + i < _; omega)).trans (h.fz i j hi)⟩
theorem SxB.put {Wb W : World} {st : List Int × Int} {o : List Int} {v : Int} {A : Option Addr} {c : Nat} (h : SxB Wb W st) (ho : W.ownsRow (Wb.heap.size + 2) 2 1 (.slice A o.length c) o.length (o.flatMap en1)) (hne : o = [] → A = none ∧ c = 0) :
    SxB Wb ((W.setCell ⟨Wb.heap.size, 0, none⟩ (.slice A o.length c)).setCell ⟨Wb.heap.size + 1, 0, none⟩ (.int .i64 v)) (o, v) := by
  obtain ⟨A0, c0, h1, h2, _⟩ := h.cb
  have f1 := (Frm.store (X := Wb.heap.size) (n := 2) (i := 0) (j := 0) W (.slice A o.length c) (by omega)).trans (Frm.store (X := Wb.heap.size) (n := 2) (i := 1) (j := 0) _ (.int .i64 v) (by omega))
  refine ⟨(h.below.setCell (p := ⟨Wb.heap.size, 0, none⟩) (Nat.le_refl _) _).setCell (p := ⟨Wb.heap.size + 1, 0, none⟩) (by simp) _, by rw [World.size_setCell, World.size_setCell]; exact h.lt, ⟨A, c, ?_, f1.own ho, hne⟩, ?_, fun i j hi => ?_⟩
  · rw [World.cell?_setCell_other _ _ _ _ (by simp)]
    exact World.cell?_setCell_same _ _ _ h1
  · refine World.cell?_setCell_same (u := .int .i64 st.2) _ _ _ ?_
    rw [World.cell?_setCell_other _ _ _ _ (by simp)]
    exact h.cl
  · rw [World.frozen?_setCell, World.frozen?_setCell]; exact h.fz i j hi
theorem SxB.frm {Wb W : World} {v : Int} {A : Option Addr} {n c : Nat} : Frm Wb.heap.size 2 W ((W.setCell ⟨Wb.heap.size, 0, none⟩ (.slice A n c)).setCell ⟨Wb.heap.size + 1, 0, none⟩ (.int .i64 v)) :=
  (Frm.store (X := Wb.heap.size) (n := 2) (i := 0) (j := 0) W (.slice A n c) (by omega)).trans (Frm.store (X := Wb.heap.size) (n := 2) (i := 1) (j := 0) _ (.int .i64 v) (by omega))
def DoP (Wb W : World) (st : List Int × Int) (e : Ending) (W' : World) : Prop := e = .returned (.tuple #[]) ∧ Frm Wb.heap.size 2 W W' ∧ SxB Wb W' st
theorem contains_len5 (a : Option Addr) (c : Nat) (xs : List Int) (n : Int) (w : World) (h : SlA en1 1 w a xs) (m : Nat) (hm : m = xs.length) :
    Calls Try.prog 86 #[.slice a m c, .int .i64 n] w fun e w' => e = .returned (.bool (xs.any (isN n))) ∧ Below w.heap.size w w' := by
  subst hm
  exact contains_en1_I a c xs n w h
set_option maxRecDepth 100000 in
theorem clip5_I (a : Option Addr) (n c : Nat) (w : World) (h : a = none → c = 0) (hn : n ≤ c) (hc : c ≤ 9223372036854775807) (hl : n ≤ 1048576) :
    Calls Try.prog 87 #[.slice a n c] w fun e w' => e = .returned (.slice a n n) ∧ w = w' := by
  cases a with
  | none =>
    obtain rfl := h rfl
    obtain rfl : n = 0 := by omega
    go_enter Try.func87, Try.ntmps87
    go_wp2_with fail
    go_ret
    exact ⟨rfl, rfl⟩
  | some b =>
    go_enter Try.func87, Try.ntmps87
    go_wp2_with fail
    go_ret
    exact ⟨rfl, rfl⟩
set_option maxRecDepth 100000 in
set_option maxHeartbeats 4000000 in
theorem orders_I (Wb : World) (n : Nat) (hn : n ≤ 5) (f : List Int × Int → List Int → List Int × Int) (p1 p2 p3 p4 : Value)
    (hst : ∀ st o, BstOk n st → OrdK n n o → BstOk n (f st o))
    (HDO : ∀ (W : World) (st : List Int × Int) (o : List Int) (A : Option Addr) (cA : Nat), SxB Wb W st → BstOk n st → OrdK n n o → W.ownsRow (Wb.heap.size + 2) 2 1 (.slice A o.length cA) o.length (o.flatMap en1) → ∀ m : Nat, m = o.length →
      Calls Try.prog 51 #[.slice A m cA, p1, p2, p3, p4] W (DoP Wb W (f st o))) :
    ∀ (r : Nat) (W : World) (now : List Int) (A : Option Addr) (cA k : Nat) (st : List Int × Int), k + r = n → OrdK n k now → SxB Wb W st → BstOk n st →
      W.ownsRow (Wb.heap.size + 2) 2 1 (.slice A now.length cA) now.length (now.flatMap en1) → ∀ m : Nat, m = now.length →
      Calls Try.prog 50 #[.int .i64 n, .slice A m cA, .func (.func 51) #[] #[p1, p2, p3, p4]] W (DoP Wb W ((levG n r [now]).foldl f st)) := by
  have hHDO := hid HDO
  have hHST := hid hst
  clear HDO hst
  intro r
  induction r with
  | zero =>
    intro W now A cA k st hk hok hS hB own m hm
    obtain rfl : k = n := by omega
    have HE := hid (hHDO.out W st now A cA hS hB hok own m hm)
    rw [show (levG k 0 [now]).foldl f st = f st now from rfl]
    generalize f st now = R at *
    obtain rfl : m = k := hm.trans hok.1
    have he : ((m : Int) == (m : Int)) = true := by simp
    clear own hS hm hk hok hB
    go_enter Try.func50, Try.ntmps50
    go_wp2_with (go_at_call 51; refine HE.out.mono ?_; rintro e w' ⟨rfl, hF, hS⟩)
    first | go_end0 | refine bodyPost_ret (results_none rfl _ _ _) rfl ?_
    exact ⟨rfl, hF, hS⟩
  | succ r ih =>
    intro W now A cA k st hk hok hS hB own m hm
    have HM := hid hm
    rw [← hm] at own
    have hmk : m = k := hm.trans hok.1
    have hmn : m < n := by omega
    have hcap := own_caps own
    have HNC := hid (own_nilcase own)
    have HS := hid hS
    have HO := hid own
    have HOK := hid hok
    have HB := hid hB
    have hih := hid ih
    obtain ⟨R, hR⟩ : ∃ R, (levG n (r + 1) [now]).foldl f st = R := ⟨_, rfl⟩
    have HLK := hid (show dfsF f n r now st 0 = R by rw [← hR, dfs_lev])
    rw [hR]
    have he : ((m : Int) == (n : Int)) = false := by simp; omega
    have HKR := hid hk
    clear hm hS own hok hB ih hR hk hmk
    go_enter Try.func50, Try.ntmps50
    go_wp2_with fail
    clear he
    go_loopw [15] (fun iv wr => ∃ (i : Nat) (st1 : List Int × Int), i ≤ n ∧ iv = .int .i64 i ∧ SxB Wb wr st1 ∧ BstOk n st1 ∧ wr.ownsRow (Wb.heap.size + 2) 2 1 (.slice A m cA) m (now.flatMap en1) ∧ Frm Wb.heap.size 2 W wr ∧ dfsF f n r now st1 i = R) (fun iv _ => n - (intOf iv).toNat)
    case atStart => exact ⟨0, st, Nat.zero_le _, rfl, HS.out, HB.out, HO.out, Frm.refl _ _ _, HLK.out⟩
    case round =>
      obtain ⟨i, st1, hi, rfl, hS, hB, own, hFr, hlp⟩ := hrel
      have HS1 := hid hS
      have HB1 := hid hB
      have HO1 := hid own
      have HF1 := hid hFr
      have HL1 := hid hlp
      have hlW := hS.lt
      by_cases hlt : i < n
      · have hdl : decide ((i : Int) < (n : Int)) = true := by rw [decide_eq_true_iff]; omega
        have wi1 : IntKind.i64.wrap ((i : Int) + 1) = (i : Int) + 1 := IntWalk.i64_in _ (by omega)
        have hsl : SlA en1 1 wr A now := en1_row (by rw [← HM.out]; exact own : wr.ownsRow (Wb.heap.size + 2) 2 1 (.slice A now.length cA) now.length (now.flatMap en1))
        have HCo := hid (contains_len5 A cA now (i : Int) wr hsl m HM.out)
        have HSl := hid hsl
        obtain ⟨u, hu⟩ : ∃ u, now.any (isN (i : Int)) = u := ⟨_, rfl⟩
        rw [hu] at HCo
        have HU := hid hu
        clear hu hsl hS hB own hFr hlp
        cases u with
        | true =>
          have HL2 := hid (show dfsF f n r now st1 (i + 1) = R by rw [← HL1.out, dfs_old hlt HU.out])
          go_wp2_with fail
          refine HCo.out.mono ?_
          rintro e w2 ⟨rfl, hb2⟩
          have HS2 := hid (HS1.out.later hb2)
          have HF2 := hid (HF1.out.trans (Frm.of_below hb2))
          have HO2 := hid (own_step HO1.out hb2)
          clear hb2
          go_wp2_with fail
          exact ⟨⟨i + 1, st1, by omega, by go_num, HS2.out, HB1.out, HO2.out, HF2.out, HL2.out⟩, by simp [intOf]; omega⟩
        | false =>
          have HCl := hid (fun W2 => clip5_I A m cA W2 (fun h => HNC.out.elim (fun k => k.2) (fun k => absurd h k)) hcap.1 hcap.2 (by omega))
          have HFL := hid (flat_one now (i : Int))
          have HLN := hid (show (now ++ [(i : Int)]).length = m + 1 by rw [List.length_append, List.length_singleton, ← HM.out])
          have hok2 := ordK_ext HOK.out hlt
          obtain ⟨s2, hs2⟩ : ∃ s2, (levG n r [now ++ [(i : Int)]]).foldl f st1 = s2 := ⟨_, rfl⟩
          have HL2 := hid (show dfsF f n r now s2 (i + 1) = R by rw [← HL1.out, dfs_new hlt HU.out, hs2])
          have HB2 := hid (show BstOk n s2 by
            rw [← hs2]
            have hall := lev_ok (n := n) r (k := k + 1) (xs := [now ++ [(i : Int)]]) (fun q hq => by rw [List.mem_singleton.1 hq]; exact hok2)
            rw [show k + 1 + r = n by have := HKR.out; omega] at hall
            have hfold : ∀ (os : List (List Int)) (s : List Int × Int), (∀ o ∈ os, OrdK n n o) → BstOk n s → BstOk n (os.foldl f s) := by
              intro os
              induction os with
              | nil => intro s _ h; exact h
              | cons o os ih => intro s ho h; exact ih _ (fun q hq => ho q (List.mem_cons_of_mem _ hq)) (hHST.out s o h (ho o List.mem_cons_self))
            exact hfold _ _ hall HB1.out)
          have HI := hid (fun W2 A2 c2 hS2 own2 => (show Calls Try.prog 50 #[.int .i64 n, .slice A2 (m + 1) c2, .func (.func 51) #[] #[p1, p2, p3, p4]] W2 (DoP Wb W2 s2) by
            rw [← hs2]
            exact hih.out W2 (now ++ [(i : Int)]) A2 c2 (k + 1) st1 (by have := HKR.out; omega) hok2 hS2 HB1.out own2 (m + 1) HLN.out.symm))
          clear hok2 hs2
          go_wp2_with fail
          refine HCo.out.mono ?_
          rintro e w2 ⟨rfl, hb2⟩
          have HS2 := hid (HS1.out.later hb2)
          have HF2 := hid (HF1.out.trans (Frm.of_below hb2))
          have HO2 := hid (own_step HO1.out hb2)
          have HR3 := hid ((HSl.out.below hb2).flat en1_length)
          have hz2 := hb2.size
          clear hb2
          go_wp2_with fail
          refine (HCl.out _).mono ?_
          rintro e w' ⟨rfl, rfl⟩
          go_wp2_with (at_builtin; refine app_grow 52 2 (.int .i64 0) 1 8 Try.underlying52 (by kernel_rfl) rfl (by decide) A m (now.flatMap en1) ?c0 ?c1 ?c2 ?c3 (by decide) [.int .i64 (i : Int)] _ _ rfl rfl rfl _ rfl rfl rfl ?c4 ?_)
          case c0 => intro h; subst h; rcases HNC.out with k | k; have := hcap.1; omega; exact absurd rfl k
          case c1 => rw [flatMap_len en1_length, ← HM.out, Nat.mul_one]
          case c2 => intro b0 hb0 j u hj; obtain ⟨b1, o1, h1, h2⟩ := HR3.out (by rw [← HM.out]; refine Nat.pos_of_ne_zero (fun h => ?_); have h0 : now = [] := List.eq_nil_of_length_eq_zero (by rw [← HM.out]; exact h); rw [h0] at hj; simp at hj); rw [hb0] at h1; cases h1; rw [Addr.add_lit]; exact h2 j u hj
          case c3 => omega
          case c4 => intro u hu; simp at hu; rcases hu with rfl; rfl
          intro A5 c5 w5 own5 hb5
          have HB5 := hid hb5
          have hz5 := hb5.size
          rw [← HFL.out] at own5
          have own5' : w5.ownsRow (Wb.heap.size + 2) 2 1 (.slice A5 (m + 1) c5) (m + 1) ((now ++ [(i : Int)]).flatMap en1) := own_low own5 (by omega)
          rw [← HLN.out] at own5'
          have HI5 := hid (HI.out w5 A5 c5 (HS2.out.later hb5) own5')
          clear own5 own5' hb5
          go_wp2_with fail
          refine HI5.out.mono ?_
          rintro e w6 ⟨rfl, hF6, hS6⟩
          have F56 := (Frm.of_below (X := Wb.heap.size) (n := 2) HB5.out).trans hF6
          have HF6 := hid (HF2.out.trans F56)
          have HO6 := hid (F56.own HO2.out)
          have HS6 := hid hS6
          clear F56 hF6 hS6
          go_wp2_with fail
          exact ⟨⟨i + 1, s2, by omega, by go_num, HS6.out, HB2.out, HO6.out, HF6.out, HL2.out⟩, by simp [intOf]; omega⟩
      · obtain rfl : i = n := by omega
        have hdl : decide ((i : Int) < (i : Int)) = false := by rw [decide_eq_false_iff_not]; omega
        clear hS hB own hFr hlp
        go_wp2_with fail
        first | go_end0 | refine bodyPost_ret (results_none rfl _ _ _) rfl ?_
        have hl := HL1.out
        rw [dfs_end] at hl
        rw [← hl]
        exact ⟨rfl, HF1.out, HS1.out⟩
theorem idxF_W (F : Nat) (he : ∀ args W, (callFunc F args).run Try.prog W = .ok (.enter F args) W) (cs : Array Value) (P : Wy → Bool) (a : Option Addr) (c n : Nat) (xs : List Wy) (hn : n = xs.length) (w : World) (h : SlA Wy.enc 6 w a xs) (HF : ∀ p ∈ xs, ∀ W, Below w.heap.size w W → Calls Try.prog F (#[.agg #[.int .i8 p.fx, .int .i8 p.fy, .int .i8 p.sd, .int .i8 p.tx, .int .i8 p.ty, .int .i8 p.ou]] ++ cs) W fun e w' => e = .returned (.bool (P p)) ∧ Below W.heap.size W w') :
    Calls Try.prog 83 #[.slice a n c, .func (.func F) #[] cs] w fun e w' => e = .returned (.int .i64 (idxOf P xs)) ∧ Below w.heap.size w w' := by
  subst hn
  have sa := h.small
  have HF := hid HF
  go_enter Try.func83, Try.ntmps83
  go_wp2_with fail
  go_loopw [8] (fun i wr => ∃ k : Nat, k ≤ xs.length ∧ i = .int .i64 k ∧ (xs.take k).any P = false ∧ Below w.heap.size w wr) (fun i _ => xs.length - (intOf i).toNat)
  case atStart => exact ⟨0, Nat.zero_le _, rfl, rfl, Below.refl _ _⟩
  case round =>
    obtain ⟨k, hk, rfl, ht, hbl⟩ := hrel
    by_cases hlt : k < xs.length
    · obtain ⟨b1, o1, rfl, hb1, hc1⟩ := (h.below hbl).cells (by omega)
      have e1 : xs[k]? = some xs[k] := List.getElem?_eq_getElem hlt
      have Hs := hid (HF.out _ (List.getElem_mem hlt) wr hbl)
      have Hp := hid e1
      have HT := hid ht
      clear ht e1
      generalize xs[k] = p at *
      obtain ⟨r, hr⟩ : ∃ r, P p = r := ⟨_, rfl⟩
      rw [hr] at Hs
      have Hr := hid hr
      have f0 : wr.cell? ⟨b1, o1 + k * 6, none⟩ = some (.int .i8 p.fx) := hc1 k _ Hp.out 0 _ rfl
      have f1 : wr.cell? ⟨b1, o1 + k * 6 + 1, none⟩ = some (.int .i8 p.fy) := hc1 k _ Hp.out 1 _ rfl
      have f2 : wr.cell? ⟨b1, o1 + k * 6 + 2, none⟩ = some (.int .i8 p.sd) := hc1 k _ Hp.out 2 _ rfl
      have f3 : wr.cell? ⟨b1, o1 + k * 6 + 3, none⟩ = some (.int .i8 p.tx) := hc1 k _ Hp.out 3 _ rfl
      have f4 : wr.cell? ⟨b1, o1 + k * 6 + 4, none⟩ = some (.int .i8 p.ty) := hc1 k _ Hp.out 4 _ rfl
      have f5 : wr.cell? ⟨b1, o1 + k * 6 + 5, none⟩ = some (.int .i8 p.ou) := hc1 k _ Hp.out 5 _ rfl
      clear hr hc1
      cases r
      · go_wp2_with fail
        refine Hs.out.mono ?_
        rintro e w1 ⟨rfl, hb9⟩
        go_wp2_with fail
        exact ⟨⟨k + 1, by omega, by go_num, any_step HT.out Hp.out Hr.out, below_of hbl hbl.size hb9⟩, by simp [intOf]; omega⟩
      · go_wp2_with fail
        refine Hs.out.mono ?_
        rintro e w1 ⟨rfl, hb9⟩
        go_wp2_with fail
        go_ret
        exact ⟨ret_int (idxOf_at HT.out Hp.out Hr.out).symm, below_of hbl hbl.size hb9⟩
    · obtain rfl : k = xs.length := by omega
      have HT := hid ht
      clear ht
      go_wp2_with fail
      go_ret
      refine ⟨ret_int ?_, hbl⟩
      have := HT.out
      rw [List.take_length] at this
      exact (idxOf_none this).symm
theorem anyF_W (F : Nat) (he : ∀ args W, (callFunc F args).run Try.prog W = .ok (.enter F args) W) (cs : Array Value) (P : Wy → Bool) (a : Option Addr) (c n : Nat) (xs : List Wy) (hn : n = xs.length) (w : World) (h : SlA Wy.enc 6 w a xs) (HF : ∀ p ∈ xs, ∀ W, Below w.heap.size w W → Calls Try.prog F (#[.agg #[.int .i8 p.fx, .int .i8 p.fy, .int .i8 p.sd, .int .i8 p.tx, .int .i8 p.ty, .int .i8 p.ou]] ++ cs) W fun e w' => e = .returned (.bool (P p)) ∧ Below W.heap.size W w') :
    Calls Try.prog 47 #[.slice a n c, .func (.func F) #[] cs] w fun e w' => e = .returned (.bool (xs.any P)) ∧ Below w.heap.size w w' := by
  have Hs := hid (idxF_W F he cs P a c n xs hn w h HF)
  have Hr := hid (idxOf_ge P xs)
  generalize idxOf P xs = v at *
  clear h HF hn
  go_enter Try.func47, Try.ntmps47
  go_wp2_with fail
  refine Hs.out.mono ?_
  rintro e w1 ⟨rfl, hb⟩
  go_wp2_with fail
  go_ret
  exact ⟨ret_bool Hr.out, hb⟩
set_option maxRecDepth 100000 in
/-- The predicate that BestOrder looks for: a way that is not sound. -/
theorem bad1_I (bb : Nat) (wi hi : Int) (hwh : -128 ≤ wi ∧ wi ≤ 127 ∧ -128 ≤ hi ∧ hi ≤ 127) (a : Option Addr) (c : Nat) (xs : List Pc) (oks : ∀ p ∈ xs, p.Ok) (hbo : bdOk wi hi xs = true) (p : Wy) (ok : p.Ok) (w : World) (hb : BdA w bb wi hi a xs.length c) (h0 : SlA Pc.enc 5 w a xs) :
    Calls Try.prog 48 #[.agg #[.int .i8 p.fx, .int .i8 p.fy, .int .i8 p.sd, .int .i8 p.tx, .int .i8 p.ty, .int .i8 p.ou], .pointer (some ⟨bb, 0, none⟩)] w fun e w' => e = .returned (.bool (!wayB wi hi xs p)) ∧ Below w.heap.size w w' := by
  obtain ⟨W0, hW0⟩ : ∃ W, W = w.alloc (.cells #[.int .i8 p.fx, .int .i8 p.fy, .int .i8 p.sd, .int .i8 p.tx, .int .i8 p.ty, .int .i8 p.ou] 38) := ⟨_, rfl⟩
  have B0 : Below w.heap.size w W0 := by rw [hW0]; exact (Below.refl _ _).alloc (Nat.le_refl _) _
  have HV := hid (ValidWay_I wi hi hwh a c xs oks p ok W0 (h0.below B0))
  rw [hbo, Bool.true_and] at HV
  unfold Wy.enc at HV
  have v0 : W0.cell? ⟨w.heap.size, 0, none⟩ = some (.int .i8 p.fx) := by rw [hW0]; simp [go_sem]
  have v1 : W0.cell? ⟨w.heap.size, 1, none⟩ = some (.int .i8 p.fy) := by rw [hW0]; simp [go_sem]
  have v2 : W0.cell? ⟨w.heap.size, 2, none⟩ = some (.int .i8 p.sd) := by rw [hW0]; simp [go_sem]
  have v3 : W0.cell? ⟨w.heap.size, 3, none⟩ = some (.int .i8 p.tx) := by rw [hW0]; simp [go_sem]
  have v4 : W0.cell? ⟨w.heap.size, 4, none⟩ = some (.int .i8 p.ty) := by rw [hW0]; simp [go_sem]
  have v5 : W0.cell? ⟨w.heap.size, 5, none⟩ = some (.int .i8 p.ou) := by rw [hW0]; simp [go_sem]
  have HB := hid B0
  obtain ⟨-, q0, q1, q2⟩ := hb.below B0 hb.lt
  clear B0 hbo hb h0
  go_enter Try.func48, Try.ntmps48
  go_upto_region 1 with fail
  rw [← hW0]
  clear hW0
  go_wp2_with fail
  refine HV.out.mono ?_
  rintro e w1 ⟨rfl, hb⟩
  have HB1 := hid (below_of HB.out HB.out.size hb)
  clear hb
  go_wp2_with fail
  go_ret
  exact ⟨rfl, HB1.out⟩
/-- What the program's step asks, said by what all lines lay. -/
theorem bst_all (wi hi : Int) (xs : List Pc) (ws : List Wy) (st : List Int × Int) (o : List Int) : bstG wi hi xs ws st o = if (all3G wi hi xs (selW ws o)).2.2 = 0 then (if st.1 = [] ∨ (all3G wi hi xs (selW ws o)).2.1 < st.2 then (o, (all3G wi hi xs (selW ws o)).2.1) else st) else st := by
  unfold bstG all3G
  by_cases h : (allG wi hi xs (selW ws o)).2 = 0
  · rw [if_pos h, if_pos h, if_pos rfl]
  · rw [if_neg h, if_neg h, if_neg h]
theorem all3_len {wi hi : Int} {xs : List Pc} (ws : List Wy) (hb : bdOk wi hi xs = true) : -200 ≤ (all3G wi hi xs ws).2.1 ∧ (all3G wi hi xs ws).2.1 ≤ 200 := by
  unfold all3G
  split
  · have h1 := all_len (wi := wi) (hi := hi) ws hb
    have h2 := (bd_in hb).2.2
    constructor
    · show (-200 : Int) ≤ _ - _; omega
    · show _ - _ ≤ (200 : Int); omega
  · exact ⟨show (-200 : Int) ≤ 0 by decide, show (0 : Int) ≤ 200 by decide⟩
set_option maxRecDepth 100000 in
set_option maxHeartbeats 4000000 in
theorem best2_I (Wb : World) (lb bb : Nat) (wi hi : Int) (wl : -128 ≤ wi) (wu : wi ≤ 127) (hl : -128 ≤ hi) (hu : hi ≤ 127) (a : Option Addr) (c : Nat) (xs : List Pc) (hs : xs.length ≤ 1048576) (hnc : a = none → c = 0) (ok : ∀ p ∈ xs, p.Ok) (hbo : bdOk wi hi xs = true) (al : Option Addr) (cl nl : Nat) (ws : List Wy) (hnl : nl = ws.length) (hnl5 : nl ≤ 5) (okw : ∀ p ∈ ws, p.Ok)
    (HBD : ∀ W, Below Wb.heap.size Wb W → W.cell? ⟨lb, 0, none⟩ = some (.slice al nl cl) ∧ BdA W bb wi hi a xs.length c ∧ SlA Pc.enc 5 W a xs ∧ SlA Wy.enc 6 W al ws)
    (W : World) (st : List Int × Int) (o : List Int) (A : Option Addr) (cA : Nat) (hS : SxB Wb W st) (hB : BstOk nl st) (hO : OrdK nl nl o) (hn0 : 0 < nl) (own : W.ownsRow (Wb.heap.size + 2) 2 1 (.slice A o.length cA) o.length (o.flatMap en1)) (m : Nat) (hm : m = o.length) :
    Calls Try.prog 51 #[.slice A m cA, .pointer (some ⟨lb, 0, none⟩), .pointer (some ⟨bb, 0, none⟩), .pointer (some ⟨Wb.heap.size, 0, none⟩), .pointer (some ⟨Wb.heap.size + 1, 0, none⟩)] W (DoP Wb W (bstG wi hi xs ws st o)) := by
  have hHBD := hid HBD
  have HS := hid hS
  have HO := hid own
  have HB := hid hB
  have hml : m = nl := hm.trans hO.1
  have HM := hid hm
  have HSl := hid (en1_row own)
  have HIx := hid (fun (k : Nat) (i : Int) (hk : o[k]? = some i) => (show ∃ p, ws[i.toNat]? = some p ∧ 0 ≤ i ∧ i < (nl : Int) ∧ (selW ws o)[k]? = some p by
    have h1 := hO.2 i (List.mem_of_getElem? hk)
    have hlt : i.toNat < ws.length := by omega
    refine ⟨_, List.getElem?_eq_getElem hlt, h1.1, h1.2, ?_⟩
    unfold selW
    rw [List.getElem?_map, hk]
    show some (ws.getD i.toNat _) = _
    rw [List.getD_eq_getElem?_getD, List.getElem?_eq_getElem hlt]; rfl))
  obtain ⟨ms, hms⟩ : ∃ ms, selW ws o = ms := ⟨_, rfl⟩
  have hmsl : ms.length = m := by rw [← hms, hm]; unfold selW; rw [List.length_map]
  have HMl := hid hmsl
  have HOm := hid (show ∀ p ∈ ms, p.Ok by
    intro p hp
    obtain ⟨k, hk⟩ := List.mem_iff_getElem?.1 hp
    have hkl : k < o.length := by rw [← hm, ← hmsl]; exact (List.getElem?_eq_some_iff.1 hk).1
    obtain ⟨p2, h1, _, _, h2⟩ := HIx.out k _ (List.getElem?_eq_getElem hkl)
    rw [hms, hk] at h2
    injection h2 with h2
    rw [h2]
    exact okw p2 (List.mem_of_getElem? h1))
  have HG := hid (bst_all wi hi xs ws st o)
  rw [hms] at HIx HG
  have HR3 := hid (all3_len ms hbo)
  have HNE := hid (show o ≠ [] by intro e; rw [e] at hm; simp at hm; omega)
  have HLa := hid (fun (V : World) (hV : Below Wb.heap.size Wb V) (al2 : Option Addr) (cl2 : Nat) (h2 : SlA Wy.enc 6 V al2 ms) => layAll_I wi hi wl wu hl hu a c xs hs hnc ok hbo al2 cl2 m ms hmsl.symm (by omega) HOm.out V (hHBD.out V hV).2.2.1 h2)
  have HCo := hid (fun (V : World) (hV : SlA en1 1 V A o) => (show Calls Try.prog 52 #[.slice A m cA] V fun e w' => ∃ A' c', e = .returned (.slice A' m c') ∧ Below V.heap.size V w' ∧ w'.ownsRow V.heap.size 2 1 (.slice A' m c') m (o.flatMap en1) by
    rw [HM.out]
    exact clone_en1_I A cA o V hV (fun e => by subst e; exact own_nil_cap own) (by omega)))
  generalize bstG wi hi xs ws st o = R at *
  generalize all3G wi hi xs ms = G at *
  have hm5 : m ≤ 5 := by omega
  have hm0 : 0 < m := by omega
  clear HBD hS own hm hms hmsl hml hB hO hnl okw ok hbo hn0
  have q52 : ∀ (w : World) (a : Option Addr) (n c n' c' : Nat), (binOp .eql 52 (.slice a n c) (.slice none n' c')).run Try.prog w = .ok (.bool a.isNone) w := fun w a n c n' c' => Lib.run_eql_slice_nil w _ _ a n c n' c' Try.underlying52
  go_enter Try.func51, Try.ntmps51
  go_wp2_with fail
  go_loopw [6, 15] (fun ov jv wr => ∃ (j : Nat) (B : Option Addr) (cB : Nat), j ≤ m ∧ jv = .int .i64 j ∧ ov = .slice B j cB ∧ wr.ownsRow W.heap.size 38 6 (.slice B j cB) j ((ms.take j).flatMap Wy.enc) ∧ Below W.heap.size W wr) (fun _ jv _ => m - (intOf jv).toNat)
  case atStart => exact ⟨0, _, _, Nat.zero_le _, rfl, rfl, World.ownsRow_lit W #[] 0 (Nat.le_refl _) (by simp [maxLen]) (by simp), (Below.refl _ _).alloc (Nat.le_refl _) _⟩
  case round =>
    obtain ⟨j, B, cB, hj, rfl, rfl, own, hbl⟩ := hrel
    have Ho := hid own
    have HBl := hid hbl
    have hz := hbl.size
    have HS2 := hid (HS.out.later hbl)
    by_cases hlt : j < m
    · have hd : decide ((j : Int) < (m : Int)) = true := by rw [decide_eq_true_iff]; omega
      have wk : IntKind.i64.wrap ((j : Int) + 1) = (j : Int) + 1 := IntWalk.i64_in _ (by omega)
      obtain ⟨b, bo, rfl, hb, hbc⟩ := en1_cells (HSl.out.below hbl) (by rw [← HM.out]; omega)
      have hjo : j < o.length := by rw [← HM.out]; exact hlt
      have e1 : o[j]? = some o[j] := List.getElem?_eq_getElem hjo
      have hcj := hbc j _ e1
      obtain ⟨p, hp, hi0, hi1, hsel⟩ := HIx.out j _ e1
      generalize o[j] = i at *
      obtain ⟨i, rfl⟩ : ∃ k : Nat, i = k := ⟨i.toNat, by omega⟩
      rw [Int.toNat_natCast] at hp
      obtain ⟨hlc, -, -, hsw⟩ := hHBD.out wr HS2.out.below
      obtain ⟨lb2, lo2, rfl, hlb2, hwc⟩ := hsw.cells (by have := (List.getElem?_eq_some_iff.1 hp).1; omega)
      have f0 : wr.cell? ⟨lb2, lo2 + i * 6, none⟩ = some (.int .i8 p.fx) := hwc i _ hp 0 _ rfl
      have f1 : wr.cell? ⟨lb2, lo2 + i * 6 + 1, none⟩ = some (.int .i8 p.fy) := hwc i _ hp 1 _ rfl
      have f2 : wr.cell? ⟨lb2, lo2 + i * 6 + 2, none⟩ = some (.int .i8 p.sd) := hwc i _ hp 2 _ rfl
      have f3 : wr.cell? ⟨lb2, lo2 + i * 6 + 3, none⟩ = some (.int .i8 p.tx) := hwc i _ hp 3 _ rfl
      have f4 : wr.cell? ⟨lb2, lo2 + i * 6 + 4, none⟩ = some (.int .i8 p.ty) := hwc i _ hp 4 _ rfl
      have f5 : wr.cell? ⟨lb2, lo2 + i * 6 + 5, none⟩ = some (.int .i8 p.ou) := hwc i _ hp 5 _ rfl
      have HTk := hid (show (ms.take (j + 1)).flatMap Wy.enc = (ms.take j).flatMap Wy.enc ++ [.int .i8 p.fx, .int .i8 p.fy, .int .i8 p.sd, .int .i8 p.tx, .int .i8 p.ty, .int .i8 p.ou] by
        rw [List.take_add_one, hsel, List.flatMap_append]
        simp [Wy.enc])
      clear hbc hwc hp hsel own hbl hsw e1
      go_wp2_with (at_builtin; refine app_one (w := wr) 47 38 (.agg #[.int .i8 0, .int .i8 0, .int .i8 0, .int .i8 0, .int .i8 0, .int .i8 0]) 6 6 Try.underlying47 (by kernel_rfl) rfl (by decide) W.heap.size _ j _ Ho.out ?c1 (by decide) hz [.int .i8 p.fx, .int .i8 p.fy, .int .i8 p.sd, .int .i8 p.tx, .int .i8 p.ty, .int .i8 p.ou] _ _ rfl rfl rfl _ rfl ?c3 rfl (by intro u hu; simp at hu; rcases hu with rfl | rfl | rfl | rfl | rfl | rfl <;> rfl) ?_)
      case c1 => omega
      case c3 => rfl
      intro A5 c5 w5 own5 hb5 hg5 hat5
      have HO5 := hid own5
      have HB5 := hid (HBl.out.trans hb5)
      clear own5 hb5 hg5 hat5
      go_wp2_with fail
      refine ⟨⟨j + 1, A5, c5, by omega, by go_num, rfl, ?_, HB5.out⟩, by simp [intOf]; omega⟩
      rw [HTk.out]
      exact HO5.out
    · obtain rfl : j = m := by omega
      have hd : decide ((j : Int) < (j : Int)) = false := by rw [decide_eq_false_iff_not]; omega
      have hSw : SlA Wy.enc 6 wr B ms := by
        refine SlA.of_own Wy.enc_length (base := W.heap.size) (e := 38) (cap := cB) ?_
        have h1 := Ho.out
        rw [List.take_of_length_le (by rw [HMl.out]; exact Nat.le_refl _)] at h1
        rw [HMl.out]; exact h1
      have HL := hid (HLa.out wr HS2.out.below B cB hSw)
      obtain ⟨-, ⟨-, q0, q1, q2⟩, -, -⟩ := hHBD.out wr HS2.out.below
      have HF2 := hid (Frm.of_below (X := Wb.heap.size) (n := 2) hbl)
      have HO2 := hid (own_step HO.out hbl)
      have HSl2 := hid (HSl.out.below hbl)
      clear own hbl hSw
      go_wp2_with fail
      refine HL.out.mono ?_
      rintro e w6 ⟨A6, c6, rfl, hb6, -⟩
      have HS6 := hid (HS2.out.later hb6)
      have HF6 := hid (HF2.out.trans (Frm.of_below hb6))
      have HO6 := hid (own_step HO2.out hb6)
      have HSl6 := hid (HSl2.out.below hb6)
      obtain ⟨W7, hW7⟩ : ∃ W7, W7 = w6.alloc (.cells #[.int .i8 G.1.1, .int .i8 G.1.2.1, .slice A6 G.1.2.2.length c6] 32) := ⟨_, rfl⟩
      have hb7 : Below w6.heap.size w6 W7 := by rw [hW7]; exact (Below.refl _ _).alloc (Nat.le_refl _) _
      have HS7 := hid (HS6.out.later hb7)
      have HF7 := hid (HF6.out.trans (Frm.of_below hb7))
      have HO7 := hid (own_step HO6.out hb7)
      have HSl7 := hid (HSl6.out.below hb7)
      clear hb6 hb7
      go_upto_region 7 with fail
      rw [← hW7]
      clear hW7
      obtain ⟨Ab, cb, cb7, ownb, hnil⟩ := HS7.out.cb
      have cl7 := HS7.out.cl
      have fz0 := HS7.out.fz 0 0 (by omega)
      have fz1 := HS7.out.fz 1 0 (by omega)
      rw [Nat.add_zero] at fz0
      have HOb := hid ownb
      obtain ⟨sl, sv⟩ := st
      dsimp only at cb7 cl7 hnil
      obtain ⟨g1, gm, gc⟩ := G
      dsimp only
      have HR3' := HR3.out
      dsimp only at HR3'
      by_cases hgc : gc = 0
      · subst hgc
        have HGG := hid (show R = if sl = [] ∨ gm < sv then (o, gm) else (sl, sv) by rw [HG.out]; exact if_pos rfl)
        by_cases hsl : sl = []
        · obtain ⟨rfl, rfl⟩ := hnil hsl
          have HRR := hid (show R = (o, gm) by rw [HGG.out, if_pos (.inl hsl)])
          subst hsl
          clear ownb
          go_wp2_with fail
          refine (HCo.out _ HSl7.out).mono ?_
          rintro e w8 ⟨A8, c8, rfl, hb8, own8⟩
          have HS8 := hid (HS7.out.later hb8)
          have HF8 := hid (HF7.out.trans (Frm.of_below hb8))
          obtain ⟨_, _, c80, _, _⟩ := HS8.out.cb
          have c81 := HS8.out.cl
          have y0 := HS8.out.fz 0 0 (by omega)
          have y1 := HS8.out.fz 1 0 (by omega)
          rw [Nat.add_zero] at y0
          have HO8 := hid (own_low own8 HS7.out.lt)
          clear hb8 own8 cb7 cl7 fz0 fz1
          go_wp2_with fail
          first | go_end0 | refine bodyPost_ret (results_none rfl _ _ _) rfl ?_
          rw [HRR.out]
          have h9 := HO8.out
          rw [HM.out] at h9 ⊢
          exact ⟨rfl, HF8.out.trans SxB.frm, HS8.out.put h9 (fun e => absurd e HNE.out)⟩
        · have hAb : Ab ≠ none := by
            intro e
            subst e
            have h0 := own_nil_cap HOb.out
            rcases HOb.out.2 with ⟨h1, h2⟩ | ⟨g, cap, cur, h1, _⟩
            · exact hsl (List.eq_nil_of_length_eq_zero h2)
            · injection h1 with h1; cases h1
          obtain ⟨ab, rfl⟩ : ∃ ab, Ab = some ab := by cases Ab with | none => exact absurd rfl hAb | some ab => exact ⟨ab, rfl⟩
          by_cases hlt2 : gm < sv
          · have hd2 : decide (gm < sv) = true := decide_eq_true hlt2
            have HRR := hid (show R = (o, gm) by rw [HGG.out, if_pos (.inr hlt2)])
            clear ownb hAb hnil hsl hlt2
            go_wp2_with fail
            refine (HCo.out _ HSl7.out).mono ?_
            rintro e w8 ⟨A8, c8, rfl, hb8, own8⟩
            have HS8 := hid (HS7.out.later hb8)
            have HF8 := hid (HF7.out.trans (Frm.of_below hb8))
            obtain ⟨_, _, c80, _, _⟩ := HS8.out.cb
            have c81 := HS8.out.cl
            have y0 := HS8.out.fz 0 0 (by omega)
            have y1 := HS8.out.fz 1 0 (by omega)
            rw [Nat.add_zero] at y0
            have HO8 := hid (own_low own8 HS7.out.lt)
            clear hb8 own8 cb7 cl7 fz0 fz1
            go_wp2_with fail
            first | go_end0 | refine bodyPost_ret (results_none rfl _ _ _) rfl ?_
            rw [HRR.out]
            have h9 := HO8.out
            rw [HM.out] at h9 ⊢
            exact ⟨rfl, HF8.out.trans SxB.frm, HS8.out.put h9 (fun e => absurd e HNE.out)⟩
          · have hd2 : decide (gm < sv) = false := decide_eq_false hlt2
            have HRR := hid (show R = (sl, sv) by rw [HGG.out, if_neg (fun h => h.elim hsl hlt2)])
            clear ownb hAb hnil hsl hlt2
            go_wp2_with fail
            first | go_end0 | refine bodyPost_ret (results_none rfl _ _ _) rfl ?_
            rw [HRR.out]
            exact ⟨rfl, HF7.out, HS7.out⟩
      · have hgn : (gc == 0) = false := by simpa using hgc
        have HRR := hid (show R = (sl, sv) by rw [HG.out]; exact if_neg hgc)
        clear ownb hgc hnil
        go_wp2_with fail
        first | go_end0 | refine bodyPost_ret (results_none rfl _ _ _) rfl ?_
        rw [HRR.out]
        exact ⟨rfl, HF7.out, HS7.out⟩
end Go.Proofs.Ytgkgklgeobbmlaa
