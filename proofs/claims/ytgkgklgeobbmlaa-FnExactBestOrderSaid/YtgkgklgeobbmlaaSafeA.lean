/-
  'append(s, xs...)' in a region that draws its order; one cell of a row that is written; append without room.
  What a function that returns a slice, a number and a code hands back; a copy of a list of numbers.
  Conditions: none; general lemmas. the fields are in their kinds' ranges.
-/
import Derived.Test.YtgkgklgeobbmlaaApp
import Derived.Deep.RegionHeld3
import Derived.Deep.AppendLies
import Derived.ArgAppend
import Derived.Test.YtgkgklgeobbmlaaSmall
import Derived.Test.YtgkgklgeobbmlaaOb
namespace Go.Proofs.Ytgkgklgeobbmlaa
open Go.RowKit
set_option linter.unusedSimpArgs false
set_option linter.unusedVariables false

theorem step_app_many {P : Program} {ops : Array Oper} {o : Oper} {a : Act} {K : Act → World → Prop} {Q : Exit → Act → World → Prop} {E : Prop} {w : World} (hgd : o.guard = none) (s x : Operand) (t : TypeId)
    (ho : o.op = .call { callee := .builtin .append, args := #[s, x], argTypes := #[t, t] })
    (base : Nat) (e : TypeId) (z : Value) (size bytes : Nat) (ht : P.underlying t = some (.slice e)) (hinfo : (P.info? e).map (fun i => (i.zero, i.size, i.bytes)) = some (some z, size, bytes)) (hzs : z.cells.size = size) (hsz : 0 < size)
    (v : Value) (n : Nat) (xs : List Value) (hs : a.eval s = v) (hown : w.ownsRow base e size v n xs)
    (A : Option Addr) (m c : Nat) (news : List Value) (hx : a.eval x = .slice A m c) (hl : news.length = m * size) (hnews : 0 < m → ∃ b q, A = some ⟨b, q, none⟩ ∧ ∀ j u, news[j]? = some u → w.cell? ⟨b, q + j, none⟩ = some u) (h1 : ∀ u ∈ news, u.oneCell' = true)
    (hnil : m = 0 → A = none ∧ c = 0 ∨ A ≠ none) (hbytes : (n + m) * bytes ≤ 140737488355328) (hb0 : 0 < bytes) (hbase : base ≤ w.heap.size)
    (h : ∀ v' w', w'.ownsRow base e size v' (n + m) (xs ++ news) → w.grownBy w' v.ownBlock → K (a.put o.dst v') w') :
    if Region.wanted o (yielded ops a.tmps) = true then Oper.wp P o a w K Q else E := by
  obtain ⟨i, hi, hzz⟩ := Option.map_eq_some_iff.1 hinfo
  simp only [Prod.mk.injEq] at hzz
  obtain ⟨hz0, hz1, hz2⟩ := hzz
  have hlen : n + m ≤ 140737488355328 := Nat.le_trans (Nat.le_mul_of_pos_right _ hb0) hbytes
  rcases Nat.eq_zero_or_pos m with h0 | h0
  · subst h0
    obtain rfl : news = [] := List.eq_nil_of_length_eq_zero (by omega)
    have hw : Region.wanted o (yielded ops a.tmps) = true := by simp [Region.wanted, hgd]
    rw [if_pos hw]
    have hrun : (Builtin.append_ #[t, t] o.type #[v, .slice A 0 c]).run P w = .ok v w := by
      rcases hnil rfl with ⟨rfl, rfl⟩ | hA
      · rcases hown.2 with ⟨rfl, hn⟩ | ⟨g, cap, cur, rfl, _, _, hnc, _⟩
        · simp [Builtin.append_, run_underlying ht, sizeOf, typeInfo, hi, Builtin.lenOf, Builtin.firstCells]
        · simp [Builtin.append_, run_underlying ht, sizeOf, typeInfo, hi, Builtin.lenOf, Builtin.firstCells, hnc, storeCells]
      · obtain ⟨ad, rfl⟩ : ∃ ad, A = some ad := by cases A with
          | none => exact absurd rfl hA
          | some ad => exact ⟨ad, rfl⟩
        rcases hown.2 with ⟨rfl, hn⟩ | ⟨g, cap, cur, rfl, _, _, hnc, _⟩
        · simp [Builtin.append_, run_underlying ht, sizeOf, typeInfo, hi, Builtin.lenOf, Builtin.firstCells, loadCells, loadCellsFrom, storeCells]
        · simp [Builtin.append_, run_underlying ht, sizeOf, typeInfo, hi, Builtin.lenOf, Builtin.firstCells, hnc, storeCells, loadCells, loadCellsFrom, storeCells]
    unfold Oper.wp execOp
    simp only [ho, resolve, invoke, builtin, Sem.run_bind, Sem.run_pure, Result.andThen_ok, List.map_toArray, List.map_cons, List.map_nil, hs, hx, hrun]
    exact h v w (by simpa using hown) (World.grownBy.refl w _)
  · obtain ⟨b, q, rfl, hc⟩ := hnews h0
    refine step_append_lies _ hgd s x t ho base e i z size bytes ht hi hz0 hz1 hz2 hzs hsz v n xs hs hown ⟨b, q, none⟩ m c news hx hl (fun j u hu => ?_) h1 h0 (by simp only [maxLen]; omega) hbytes hbase w.heap.size rfl (fun g cap w' h2 h3 _ _ => h _ w' h2 h3)
    have e1 : (⟨b, q, none⟩ : Addr).add j = ⟨b, q + j, none⟩ := by unfold Addr.add; split <;> simp_all
    rw [e1]
    exact hc j u hu
theorem flat_set_one {α : Type} {en : α → List Value} {n : Nat} (hn : ∀ p, (en p).length = n) (p p' : α) (j : Nat) (v : Value) (hj : j < n) (he : en p' = (en p).set j v) : ∀ (l : List α) (k : Nat), l[k]? = some p → (l.set k p').flatMap en = (l.flatMap en).set (k * n + j) v
  | [], k, h => by simp at h
  | q :: l, 0, h => by
    simp at h
    subst h
    simp only [List.set_cons_zero, List.flatMap_cons, he, Nat.zero_mul, Nat.zero_add]
    rw [List.set_append_left _ _ (by rw [hn]; exact hj)]
  | q :: l, k + 1, h => by
    have := flat_set_one hn p p' j v hj he l k (by simpa using h)
    simp only [List.set_cons_succ, List.flatMap_cons, this]
    rw [List.set_append_right _ _ (by rw [hn, Nat.succ_mul]; omega), hn]
    congr 2
    rw [Nat.succ_mul]; omega
/-- append(x, y) where x has no room: a new row. -/
theorem app_grow {P : Program} {ops : Array Oper} {rest : List Oper} {o : Oper} {a : Act} {Q : Exit → Act → World → Prop} {w : World} (t e : TypeId) (z : Value) (size bytes : Nat) (ht : P.underlying t = some (.slice e)) (hinfo : (P.info? e).map (fun i => (i.zero, i.size, i.bytes)) = some (some z, size, bytes)) (hzs : z.cells.size = size) (hsz : 0 < size)
    (ao : Option Addr) (n : Nat) (xs : List Value) (hnone : ao = none → n = 0) (hlo : xs.length = n * size) (holds : ∀ b, ao = some b → ∀ j u, xs[j]? = some u → w.cell? (b.add j) = some u) (hn : (n + 1) * bytes ≤ 140737488355328) (hb0 : 0 < bytes)
    (news : List Value) (s x : Operand) (hgd : o.guard = none) (ho : o.op = .call { callee := .builtin .append, args := #[s, x], argTypes := #[t, t] }) (hs : a.eval s = .slice ao n n) (g : Nat) (hx : a.eval x = .slice (some ⟨g, 0, none⟩) 1 1) (hgz : g = w.heap.size) (hl : news.length = size) (h1 : ∀ u ∈ news, u.oneCell' = true)
    (h : ∀ A c w', w'.ownsRow w.heap.size e size (.slice A (n + 1) c) (n + 1) (xs ++ news) → Below w.heap.size w w' → wpList P ops Q rest (a.put o.dst (.slice A (n + 1) c)) w') :
    wpList P ops Q (o :: rest) a (w.alloc (.cells news.toArray e)) := by
  subst hgz
  obtain ⟨i, hi, hz, hz1, hz2⟩ := info_parts hinfo
  have hA : Below w.heap.size w (w.alloc (.cells news.toArray e)) := (Below.refl _ _).alloc (Nat.le_refl _) _
  refine wpList_append_grows _ hgd s x t ho e i z size bytes ht hi hz hz1 hz2 hzs hsz ao n n xs hs (fun h => ⟨hnone h, hnone h⟩) hlo (fun b hb j u hu => (hA.cell (World.block_lt_of_cell? _ _ (holds b hb j u hu))).trans (holds b hb j u hu)) ⟨w.heap.size, 0, none⟩ 1 1 news hx (by rw [hl, Nat.one_mul]) (fun j u hu => ?_) h1 (by omega) (by have := Nat.le_mul_of_pos_right (n + 1) hb0; unfold maxLen; omega) hn (fun v' w' own hg => ?_)
  · have : j < news.length := (List.getElem?_eq_some_iff.1 hu).1
    simp [go_sem, hu]
  · obtain ⟨A, c, rfl⟩ := own_slice own
    exact h A c w' (own_low own (by simp)) (hA.grown hg (by simp) (by simp))
/-- append(v, x) where v is empty and has no room, or a row of one's own. -/
theorem app_emp {P : Program} {ops : Array Oper} {rest : List Oper} {o : Oper} {a : Act} {Q : Exit → Act → World → Prop} {w : World} (t e : TypeId) (z : Value) (size bytes : Nat) (ht : P.underlying t = some (.slice e)) (hinfo : (P.info? e).map (fun i => (i.zero, i.size, i.bytes)) = some (some z, size, bytes)) (hzs : z.cells.size = size) (hsz : 0 < size)
    (base : Nat) (v : Value) (n : Nat) (xs : List Value) (hown : (∃ ao, v = .slice ao 0 0 ∧ n = 0 ∧ xs = []) ∨ w.ownsRow base e size v n xs) (hn : (n + 1) * bytes ≤ 140737488355328) (hb0 : 0 < bytes) (hbase : base ≤ w.heap.size)
    (news : List Value) (s x : Operand) (hgd : o.guard = none) (ho : o.op = .call { callee := .builtin .append, args := #[s, x], argTypes := #[t, t] }) (hs : a.eval s = v) (g : Nat) (hx : a.eval x = .slice (some ⟨g, 0, none⟩) 1 1) (hgz : g = w.heap.size) (hl : news.length = size) (h1 : ∀ u ∈ news, u.oneCell' = true)
    (h : ∀ A c w', w'.ownsRow base e size (.slice A (n + 1) c) (n + 1) (xs ++ news) → Below base w w' → wpList P ops Q rest (a.put o.dst (.slice A (n + 1) c)) w') :
    wpList P ops Q (o :: rest) a (w.alloc (.cells news.toArray e)) := by
  rcases hown with ⟨ao, rfl, rfl, rfl⟩ | hown
  · exact app_grow t e z size bytes ht hinfo hzs hsz ao 0 [] (fun _ => rfl) (by simp) (fun b _ j u hu => by simp at hu) hn hb0 news s x hgd ho hs g hx hgz hl h1 (fun A c w' own hb => h A c w' (own_low own hbase) (hb.mono hbase))
  · exact app_one t e z size bytes ht hinfo hzs hsz base v n xs hown hn hb0 hbase news s x hgd ho hs g hx hgz hl h1 (fun A c w' own hb _ _ => h A c w' own hb)
def ResS2 {α : Type} (enc : α → List Value) (n : Nat) (E : TypeId) (w : World) (R : List α) (sd cd : Int) (e : Ending) (w' : World) : Prop :=
  ∃ A c, e = .returned (.tuple #[.slice A R.length c, .int .i64 sd, .int .i64 cd]) ∧ Below w.heap.size w w' ∧ w'.ownsRow w.heap.size E n (.slice A R.length c) R.length (R.flatMap enc)
theorem ResS2.nil {α : Type} {enc : α → List Value} {n : Nat} {E : TypeId} {w w' : World} {sd cd : Int} (h : Below w.heap.size w w') : ResS2 enc n E w [] sd cd (.returned (.tuple #[.slice none 0 0, .int .i64 sd, .int .i64 cd])) w' :=
  ⟨none, 0, rfl, h, World.ownsRow_nil _ _ _ _⟩
theorem ResS2.empty {α : Type} {enc : α → List Value} {n : Nat} {E : TypeId} {w w1 : World} {sd cd : Int} (h : Below w.heap.size w w1) : ResS2 enc n E w [] sd cd (.returned (.tuple #[.slice (some ⟨w1.heap.size, 0, none⟩) 0 0, .int .i64 sd, .int .i64 cd])) (w1.alloc (.cells #[] E)) :=
  ⟨some ⟨w1.heap.size, 0, none⟩, 0, rfl, h.alloc h.size _, World.ownsRow_lit w1 #[] 0 h.size (by simp [maxLen]) (by simp)⟩
theorem en1_row {w : World} {base : Nat} {e : TypeId} {A : Option Addr} {c : Nat} {l : List Int} (h : w.ownsRow base e 1 (.slice A l.length c) l.length (l.flatMap en1)) : SlA en1 1 w A l := SlA.of_own en1_length h
def lenV : Value → Nat
  | .slice _ n _ => n
  | _ => 0
theorem own_nilcase {w : World} {base n c : Nat} {e : TypeId} {size : Nat} {A : Option Addr} {xs : List Value} (h : w.ownsRow base e size (.slice A n c) n xs) : A = none ∧ c = 0 ∨ A ≠ none := by
  rcases h.2 with ⟨h1, _⟩ | ⟨g, cap, cur, h1, _⟩
  · injection h1 with h1 h2 h3
    exact .inl ⟨h1, h3⟩
  · injection h1 with h1 h2 h3
    exact .inr (by rw [h1]; simp)
theorem own_caps {w : World} {base n c : Nat} {e : TypeId} {size : Nat} {A : Option Addr} {xs : List Value} (h : w.ownsRow base e size (.slice A n c) n xs) : n ≤ c ∧ c ≤ 9223372036854775807 := by
  rcases h.2 with ⟨h1, h2⟩ | ⟨g, cap, cur, h1, _, _, h4, h5, _⟩
  · injection h1 with h1 h2 h3
    omega
  · injection h1 with h1 h2 h3
    unfold maxLen at h5
    omega
theorem flat_one (l : List Int) (x : Int) : (l ++ [x]).flatMap en1 = l.flatMap en1 ++ [.int .i64 x] := by rw [List.flatMap_append]; simp [en1]
set_option maxRecDepth 100000 in
theorem clone_en1_I (a : Option Addr) (c : Nat) (xs : List Int) (w : World) (h : SlA en1 1 w a xs) (hc : a = none → c = 0) (hs : xs.length ≤ 1048576) :
    Calls Try.prog 52 #[.slice a xs.length c] w fun e w' => ∃ A c', e = .returned (.slice A xs.length c') ∧ Below w.heap.size w w' ∧ w'.ownsRow w.heap.size 2 1 (.slice A xs.length c') xs.length (xs.flatMap en1) := by
  cases a with
  | none =>
    have h0 : xs.length = 0 := by
      rcases Nat.eq_zero_or_pos xs.length with h0 | h0
      · exact h0
      · obtain ⟨_, _, e, _⟩ := h.cells h0
        cases e
    obtain rfl : xs = [] := List.eq_nil_of_length_eq_zero h0
    obtain rfl : c = 0 := hc rfl
    clear h hc h0 hs
    simp only [List.length_nil]
    have q41 : ∀ (w : World) (a : Option Addr) (n c n' c' : Nat), (binOp .eql 52 (.slice a n c) (.slice none n' c')).run Try.prog w = .ok (.bool a.isNone) w := fun w a n c n' c' => Lib.run_eql_slice_nil w _ _ a n c n' c' Try.underlying52
    go_enter Try.func52, Try.ntmps52
    go_wp2_with fail
    go_ret
    exact ⟨none, 0, rfl, Below.refl _ _, World.ownsRow_nil _ _ _ _⟩
  | some ad =>
    have q41 : ∀ (w : World) (a : Option Addr) (n c n' c' : Nat), (binOp .eql 52 (.slice a n c) (.slice none n' c')).run Try.prog w = .ok (.bool a.isNone) w := fun w a n c n' c' => Lib.run_eql_slice_nil w _ _ a n c n' c' Try.underlying52
    have H := hid (fun o => (h.below ((Below.refl _ _).alloc (Nat.le_refl _) o) : SlA en1 1 (w.alloc o) (some ad) xs).flat en1_length)
    clear h hc
    go_enter Try.func52, Try.ntmps52
    go_wp2_with (at_builtin; refine app_many rfl _ _ 52 rfl w.heap.size 2 (.int .i64 0) 1 8 Try.underlying52 (by kernel_rfl) rfl (by decide) _ 0 [] rfl (World.ownsRow_lit w #[] 0 (Nat.le_refl _) (by simp [maxLen]) (by simp)) (some ad) xs.length c (xs.flatMap en1) rfl ?c1 (H.out _) ?c2 ?c3 ?c4 (by decide) ?c5 ?_)
    case c1 => exact flatMap_len en1_length xs
    case c2 => exact oneCell_flat (fun p u hu => by simp [en1] at hu; subst hu; rfl) xs
    case c3 => exact fun _ => .inr (by simp)
    case c4 => omega
    case c5 => simp
    intro v1 w1 own1 hg1 hat
    try simp only [Nat.zero_add, List.nil_append] at own1
    obtain ⟨A1, c1, rfl⟩ := own_slice own1
    have Ho := hid own1
    have Hg := hid hg1
    clear own1 hg1 hat q41
    go_wp2_with fail
    go_ret
    exact ⟨A1, c1, rfl, ((Below.refl _ _).alloc (Nat.le_refl _) _).grown Hg.out (by simp) (by simp [Value.ownBlock]), Ho.out⟩
theorem take_en1 {w : World} {a : Option Addr} {l : List Int} (h : SlA en1 1 w a l) (k : Nat) : SlA en1 1 w a (l.take k) := by
  refine ⟨Nat.le_trans (by rw [List.length_take]; omega) h.small, fun hp => ?_⟩
  obtain ⟨b, o, e, hlt, hc⟩ := h.cells (by rw [List.length_take] at hp; omega)
  refine ⟨b, o, e, hlt, fun i p hi j u hu => hc i p ?_ j u hu⟩
  have hik : i < k := by have := (List.getElem?_eq_some_iff.1 hi).1; rw [List.length_take] at this; omega
  rwa [List.getElem?_take_of_lt hik] at hi
end Go.Proofs.Ytgkgklgeobbmlaa
