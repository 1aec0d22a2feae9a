/-
  The map of distances that steps makes: map[Cell]int64.
  A queue of cells: a slice of one's own that is cut from the front and grows at its end.
  Conditions: the keys' numbers are an int8's. none; general lemmas.
-/
import Derived.Test.YtgkgklgeobbmlaaSeen
import Derived.Test.YtgkgklgeobbmlaaLineG
import Derived.Test.YtgkgklgeobbmlaaLineS
import Derived.ArgAppend
import Derived.Deep.MidRow
namespace Go.Proofs.Ytgkgklgeobbmlaa
open Go.RowKit
set_option linter.unusedSimpArgs false
set_option linter.unusedVariables false

theorem intZ64 (w : World) : (zeroValue 2).run Try.prog w = .ok (.int .i64 0) w := by kernel_rfl
/-- Block b is a map of at most n cells; f tells the number of a cell, a negative one for none. -/
def Plq (w : World) (b n : Nat) (f : Int → Int → Int) : Prop :=
  ∃ D : DataW Unit, w.ownsMap Try.prog 36 (plainElem Try.prog 2) b n D ∧ Maps.IsMap D ∧ ∀ x y, i8B x → i8B y → ∀ z, D.atKey (ceKey x y) z = if 0 ≤ f x y then .lit (.int .i64 (f x y)) else z
theorem plq_made (w : World) : Plq (w.alloc (.map #[] 0)) w.heap.size 0 (fun _ _ => -1) :=
  ⟨_, World.ownsMap_made w _ _ _, Maps.isMap_empty, fun _ _ _ _ _ => rfl⟩
theorem Plq.lt {w : World} {b n : Nat} {f : Int → Int → Int} (h : Plq w b n f) : b < w.heap.size := by
  obtain ⟨D, h1, _⟩ := h
  exact h1.lt
theorem Plq.below {w w1 : World} {b n B : Nat} {f : Int → Int → Int} (h : Plq w b n f) (hb : Below B w w1) (hB : b < B) : Plq w1 b n f := by
  obtain ⟨D, ⟨es, clock, h1, h2⟩, h3⟩ := h
  exact ⟨D, ⟨es, clock, (hb.block b hB).trans h1, h2⟩, h3⟩
theorem Plq.kept {w w1 : World} {b n : Nat} {f : Int → Int → Int} {r : Option Nat} (h : Plq w b n f) (hg : w.grownBy w1 r) (hne : some b ≠ r) : Plq w1 b n f := by
  have hl := h.lt
  obtain ⟨D, ⟨es, clock, h1, h2⟩, h3⟩ := h
  exact ⟨D, ⟨es, clock, (hg.block b hl hne).trans h1, h2⟩, h3⟩
theorem Plq.congr {w : World} {b n : Nat} {f g : Int → Int → Int} (h : Plq w b n f) (e : ∀ x y, i8B x → i8B y → f x y = g x y) : Plq w b n g := by
  obtain ⟨D, h1, h2, h3⟩ := h
  exact ⟨D, h1, h2, fun x y hx hy z => by rw [h3 x y hx hy z, e x y hx hy]⟩
theorem litNq : (DataW.lit (.bool true) : DataW Unit) ≠ .lit (.bool false) := by
  intro h
  injection h with h
  injection h with h
  cases h
set_option maxRecDepth 100000 in
theorem Plq.look {w : World} {b n : Nat} {f : Int → Int → Int} (h : Plq w b n f) {x y : Int} (hx : i8B x) (hy : i8B y) :
    (Instr.lookup 107 (.map (some b)) (.agg #[.int .i8 x, .int .i8 y]) true).run Try.prog w = .ok (.tuple #[.int .i64 (if 0 ≤ f x y then f x y else 0), .bool (decide (0 ≤ f x y))]) w := by
  obtain ⟨D, ⟨es, clock, h1, h2, h4, rfl⟩, h5, h3⟩ := h
  rcases Maps.fit_look true ceLaw Try.underlying107 (intZ64 w) h1 h2 (ceKey_of hx hy) with ⟨hrun, _, hat⟩ | ⟨e0, v, _, _, hrun, hRv, hat, _⟩
  · have hn : ¬ 0 ≤ f x y := by
      intro hp
      have a1 := h3 x y hx hy (.lit (.bool true))
      have a2 := h3 x y hx hy (.lit (.bool false))
      rw [hat, if_pos hp] at a1 a2
      exact litNq (a1.trans a2.symm)
    rw [hrun, if_neg hn, decide_eq_false hn]
    rfl
  · have hp : 0 ≤ f x y := by
      apply Classical.byContradiction
      intro hn
      have a1 := h3 x y hx hy (.lit (.bool true))
      have a2 := h3 x y hx hy (.lit (.bool false))
      rw [hat, if_neg hn] at a1 a2
      exact litNq (a1.symm.trans a2)
    obtain ⟨c, hc1, hc2, _⟩ := plainElem_int_inv Try.underlying2 hRv
    have a1 := h3 x y hx hy (.lit (.bool true))
    rw [hat, if_pos hp, hc2] at a1
    have hce : c = f x y := by
      injection a1 with a1
      injection a1
    rw [hrun, if_pos hp, decide_eq_true hp, hc1, hce]
    rfl
set_option maxRecDepth 100000 in
theorem Plq.look1 {w : World} {b n : Nat} {f : Int → Int → Int} (h : Plq w b n f) {x y : Int} (hx : i8B x) (hy : i8B y) :
    (Instr.lookup 107 (.map (some b)) (.agg #[.int .i8 x, .int .i8 y]) false).run Try.prog w = .ok (.int .i64 (if 0 ≤ f x y then f x y else 0)) w := by
  obtain ⟨D, ⟨es, clock, h1, h2, h4, rfl⟩, h5, h3⟩ := h
  rcases Maps.fit_look false ceLaw Try.underlying107 (intZ64 w) h1 h2 (ceKey_of hx hy) with ⟨hrun, _, hat⟩ | ⟨e0, v, _, _, hrun, hRv, hat, _⟩
  · have hn : ¬ 0 ≤ f x y := by
      intro hp
      have a1 := h3 x y hx hy (.lit (.bool true))
      have a2 := h3 x y hx hy (.lit (.bool false))
      rw [hat, if_pos hp] at a1 a2
      exact litNq (a1.trans a2.symm)
    rw [hrun, if_neg hn]
    rfl
  · have hp : 0 ≤ f x y := by
      apply Classical.byContradiction
      intro hn
      have a1 := h3 x y hx hy (.lit (.bool true))
      have a2 := h3 x y hx hy (.lit (.bool false))
      rw [hat, if_neg hn] at a1 a2
      exact litNq (a1.symm.trans a2)
    obtain ⟨c, hc1, hc2, _⟩ := plainElem_int_inv Try.underlying2 hRv
    have a1 := h3 x y hx hy (.lit (.bool true))
    rw [hat, if_pos hp, hc2] at a1
    have hce : c = f x y := by
      injection a1 with a1
      injection a1
    rw [hrun, if_pos hp, hc1, hce]
    rfl
set_option maxRecDepth 100000 in
theorem Plq.store {w : World} {b n : Nat} {f : Int → Int → Int} (h : Plq w b n f) (hn : n < maxLen) {x y : Int} (hx : i8B x) (hy : i8B y) (v : Int) (v0 : 0 ≤ v) (v1 : v ≤ 9223372036854775807) :
    ∃ w', (Instr.mapUpdate 107 (.map (some b)) (.agg #[.int .i8 x, .int .i8 y]) (.int .i64 v)).run Try.prog w = .ok () w' ∧ Plq w' b (n + 1) (fun p q => if p = x ∧ q = y then v else f p q) ∧ w.grownBy w' (some b) := by
  obtain ⟨D, h1, h2, h3⟩ := h
  have wf : (Lit.int .i64 v).wf = true := WalkArith.wf_i64 ⟨by omega, v1⟩
  obtain ⟨w', hr, ho, hg⟩ := h1.update ceLaw Try.underlying107 hn (ceKey_of hx hy) (plainElem_int Try.underlying2 wf)
  refine ⟨w', hr, ⟨_, ho, h2.put _ _, fun p q hp hq z => ?_⟩, hg⟩
  by_cases e : p = x ∧ q = y
  · obtain ⟨rfl, rfl⟩ := e
    rw [Maps.atKey_put_same h2 (ceLaw.key (ceKey_of hx hy))]
    simp [v0]
  · rw [Maps.atKey_put_other (fun ek => e ?_), h3 p q hp hq]
    · simp only [if_neg e]
    · have := ceLaw.inj (ceKey_of hp hq) (ek ▸ ceKey_of hx hy)
      simpa using this
structure QuB (w : World) (base g off n cap : Nat) (q : List Ce) : Prop where
  len : n = q.length
  le : n ≤ cap
  mx : cap ≤ maxLen
  bs : base ≤ g
  lt : g < w.heap.size
  sp : ∀ j, j < cap * 2 → (w.cell? ⟨g, off + j, none⟩).isSome = true ∧ w.frozen? ⟨g, off + j, none⟩ = false
  cs : ∀ j u, (q.flatMap Ce.enc)[j]? = some u → w.cell? ⟨g, off + j, none⟩ = some u
theorem below_cellsQ {B g : Nat} (hg : B ≤ g) : ∀ (vs : List Value) (o : Nat) (w : World), Below B w (w.setCells g o vs)
  | [], _, w => Below.refl B w
  | v :: r, o, w => ((Below.refl B w).setCell (p := ⟨g, o, none⟩) hg v).trans (below_cellsQ hg r (o + 1) _)
theorem heap_cellsQ {g k : Nat} (hk : k ≠ g) : ∀ (vs : List Value) (o : Nat) (w : World), (w.setCells g o vs).heap[k]? = w.heap[k]?
  | [], _, w => rfl
  | v :: r, o, w => (heap_cellsQ hk r (o + 1) _).trans (Deep.blk_setCell_other _ _ _ _ hk)
theorem flatC_len : ∀ q : List Ce, (q.flatMap Ce.enc).length = q.length * 2
  | [] => rfl
  | e :: q => by rw [List.flatMap_cons, List.length_append, flatC_len q, List.length_cons]; show 2 + q.length * 2 = _; omega
theorem QuB.below {w w1 : World} {base g off n cap B : Nat} {q : List Ce} (h : QuB w base g off n cap q) (hb : Below B w w1) (hg : g < B) : QuB w1 base g off n cap q :=
  ⟨h.len, h.le, h.mx, h.bs, Nat.lt_of_lt_of_le h.lt hb.size, fun j hj => by rw [hb.cell (p := ⟨g, _, none⟩) hg, hb.frozen (p := ⟨g, _, none⟩) hg]; exact h.sp j hj, fun j u hu => (hb.cell (p := ⟨g, _, none⟩) hg).trans (h.cs j u hu)⟩
theorem QuB.kept {w w1 : World} {base g off n cap : Nat} {q : List Ce} {r : Option Nat} (h : QuB w base g off n cap q) (hg : w.grownBy w1 r) (hne : some g ≠ r) : QuB w1 base g off n cap q :=
  ⟨h.len, h.le, h.mx, h.bs, Nat.lt_of_lt_of_le h.lt hg.size, fun j hj => by rw [hg.cell_far ⟨g, _, none⟩ h.lt hne, hg.frozen_far ⟨g, _, none⟩ h.lt hne]; exact h.sp j hj, fun j u hu => (hg.cell_far ⟨g, _, none⟩ h.lt hne).trans (h.cs j u hu)⟩
theorem QuB.of_own {w : World} {base g n cap : Nat} {e : TypeId} {q : List Ce} (h : w.ownsRow base e 2 (.slice (some ⟨g, 0, none⟩) n cap) n (q.flatMap Ce.enc)) : QuB w base g 0 n cap q := by
  have hl : n = q.length := by
    have h1 := h.1
    rw [flatC_len] at h1
    omega
  rcases h.2 with ⟨h1, _⟩ | ⟨g', cap', cur, h1, hb, hg, hn, hm, hs, ht⟩
  · cases h1
  · injection h1 with h1 _ h2
    injection h1 with h1
    injection h1 with h1
    subst h1
    subst h2
    refine ⟨hl, hn, hm, hb, (Array.getElem?_eq_some_iff.1 hg).1, fun j hj => ?_, fun j u hu => ?_⟩
    · rw [Nat.zero_add]
      refine ⟨?_, ?_⟩
      · have hlt : j < cur.size := by omega
        simp [World.cell?, hg, hlt]
      · simp [World.frozen?, hg]
    · rw [Nat.zero_add]
      have hj : j < n * 2 := by
        have := (List.getElem?_eq_some_iff.1 hu).1
        rw [flatC_len] at this
        omega
      rw [← ht, List.getElem?_take_of_lt hj] at hu
      simp only [World.cell?, hg]
      simpa using hu
theorem QuB.head {w : World} {base g off n cap : Nat} {q : List Ce} (h : QuB w base g off n cap q) {e : Ce} (he : q[0]? = some e) : w.cell? ⟨g, off, none⟩ = some (.int .i8 e.x) ∧ w.cell? ⟨g, off + 1, none⟩ = some (.int .i8 e.y) := by
  cases q with
  | nil => cases he
  | cons e' q =>
    injection he with he
    subst he
    exact ⟨h.cs 0 _ rfl, h.cs 1 _ rfl⟩
theorem QuB.cut {w : World} {base g off n cap : Nat} {q : List Ce} (h : QuB w base g off n cap q) (hn : 0 < n) : QuB w base g (off + 2) (n - 1) (cap - 1) (q.drop 1) := by
  have h1 := h.le
  refine ⟨by rw [List.length_drop, h.len], by omega, by have := h.mx; omega, h.bs, h.lt, fun j hj => ?_, fun j u hu => ?_⟩
  · rw [Nat.add_assoc]
    exact h.sp (2 + j) (by omega)
  · cases q with
    | nil => simp at hu
    | cons e q =>
      rw [Nat.add_assoc]
      refine h.cs (2 + j) u ?_
      rw [List.flatMap_cons, List.getElem?_append_right (by show 2 ≤ 2 + j; omega)]
      have : 2 + j - e.enc.length = j := by show 2 + j - 2 = j; omega
      rw [this]
      exact hu
theorem QuB.cut0 {w : World} {base g off n cap : Nat} {q : List Ce} (h : QuB w base g off n cap q) (hn : 0 < n) (hc : cap = 1) : QuB w base g off (n - 1) (cap - 1) (q.drop 1) := by
  have h1 := h.le
  have hl := h.len
  have hq : q.drop 1 = [] := List.eq_nil_of_length_eq_zero (by rw [List.length_drop]; omega)
  rw [hq]
  exact ⟨by simp only [List.length_nil]; omega, by omega, by have := h.mx; omega, h.bs, h.lt, fun j hj => by omega, fun j u hu => by simp at hu⟩
theorem Seen.kept {w w1 : World} {b n : Nat} {S : Int → Int → Bool} {r : Option Nat} (h : Seen w b n S) (hg : w.grownBy w1 r) (hne : some b ≠ r) : Seen w1 b n S := by
  have hl := h.lt
  obtain ⟨D, ⟨es, clock, h1, h2⟩, h3⟩ := h
  exact ⟨D, ⟨es, clock, (hg.block b hl hne).trans h1, h2⟩, h3⟩
theorem app_q {ops : Array Oper} {rest : List Oper} {o : Oper} {a : Act} {Q : Exit → Act → World → Prop} {w : World}
    (base g off n cap : Nat) (q : List Ce) (hq : QuB w base g off n cap q) (hn : n ≤ 1048576) (e : Ce) (s x : Operand) (hgd : o.guard = none)
    (ho : o.op = .call { callee := .builtin .append, args := #[s, x], argTypes := #[ 67, 67 ] }) (hs : a.eval s = .slice (some ⟨g, off, none⟩) n cap) (k : Nat) (hx : a.eval x = .slice (some ⟨k, 0, none⟩) 1 1) (hk : k = w.heap.size)
    (h : ∀ g' off' cap' w', QuB w' base g' off' (n + 1) cap' (q ++ [e]) → Below base w w' → w.grownBy w' (some g) → wpList Try.prog ops Q rest (a.put o.dst (.slice (some ⟨g', off', none⟩) (n + 1) cap')) w') :
    wpList Try.prog ops Q (o :: rest) a (w.alloc (.cells #[.int .i8 e.x, .int .i8 e.y] 36)) := by
  subst hk
  have hinfo : (Try.prog.info? 36).map (fun i => (i.zero, i.size, i.bytes)) = some (some (.agg Ce.z.enc.toArray), 2, 2) := by kernel_rfl
  obtain ⟨i, hi, hzz⟩ := Option.map_eq_some_iff.1 hinfo
  simp only [Prod.mk.injEq] at hzz
  obtain ⟨hz0, hz1, hz2⟩ := hzz
  have hb1 : Below w.heap.size w (w.alloc (.cells #[.int .i8 e.x, .int .i8 e.y] 36)) := (Below.refl _ _).alloc (Nat.le_refl _) _
  have hqa := hq.below hb1 hq.lt
  have hen : (([e] : List Ce).flatMap Ce.enc) = [.int .i8 e.x, .int .i8 e.y] := rfl
  have hl2 : (q.flatMap Ce.enc).length = n * 2 := by rw [flatC_len, hq.len]
  refine wpList_append_arg (w.alloc (.cells #[.int .i8 e.x, .int .i8 e.y] 36)) hgd s x 67 ho 36 i (.agg Ce.z.enc.toArray) 2 2 Try.underlying67 hi hz0 hz1 hz2 rfl (by decide) g off n cap (q.flatMap Ce.enc) hs hl2 (fun j u hu => hqa.cs j u hu)
    ⟨w.heap.size, 0, none⟩ 1 1 [.int .i8 e.x, .int .i8 e.y] hx rfl (fun j u hu => ?_) (by intro u hu; simp at hu; rcases hu with rfl | rfl <;> rfl) (fun hr j hj => ?_) (by unfold maxLen; omega) (by omega) (fun hr => ?_) (fun hr v' w' own hg => ?_)
  · have hj : j < 2 := (List.getElem?_eq_some_iff.1 hu).1
    have : j = 0 ∨ j = 1 := by omega
    rcases this with rfl | rfl <;> (simp at hu; subst hu; simp [go_sem])
  · have hj2 : j < 2 := hj
    rw [Nat.add_assoc]
    exact hqa.sp (n * 2 + j) (by omega)
  · have hthere : ∀ j, j < 2 → ((w.alloc (.cells #[.int .i8 e.x, .int .i8 e.y] 36)).cell? ⟨g, off + n * 2 + j, none⟩).isSome = true := fun j hj => by
      rw [Nat.add_assoc]
      exact (hqa.sp (n * 2 + j) (by omega)).1
    have hbs : Below g (w.alloc (.cells #[.int .i8 e.x, .int .i8 e.y] 36)) ((w.alloc (.cells #[.int .i8 e.x, .int .i8 e.y] 36)).setCells g (off + n * 2) [.int .i8 e.x, .int .i8 e.y]) := below_cellsQ (Nat.le_refl _) _ _ _
    refine h g off cap _ ⟨by rw [List.length_append, ← hq.len]; rfl, hr, hq.mx, hq.bs, Nat.lt_of_lt_of_le hqa.lt hbs.size, fun j hj => ?_, fun j u hu => ?_⟩ ?_ ?_
    · obtain ⟨k1, k2⟩ := hqa.sp j hj
      exact ⟨World.isSome_setCells g _ _ _ _ k1, by rw [World.frozen?_setCells]; exact k2⟩
    · rw [List.flatMap_append, hen] at hu
      rcases Nat.lt_or_ge j (n * 2) with hlt | hge
      · rw [List.getElem?_append_left (by omega)] at hu
        rw [World.cell?_setCells_out g _ _ _ _ (fun _ _ => .inl (by show off + j < _; omega))]
        exact hqa.cs j u hu
      · rw [List.getElem?_append_right (by omega), hl2] at hu
        have hj2 : j - n * 2 < 2 := (List.getElem?_eq_some_iff.1 hu).1
        have := World.cell?_setCells_in g [.int .i8 e.x, .int .i8 e.y] (off + n * 2) _ hthere (j - n * 2) hj2
        rw [show off + n * 2 + (j - n * 2) = off + j by omega] at this
        rw [this]
        exact (List.getElem?_eq_some_iff.1 hu).2 ▸ rfl
    · exact (hb1.mono (Nat.le_trans hq.bs (Nat.le_of_lt hq.lt))).trans (hbs.mono hq.bs)
    · refine ⟨?_, ?_, ?_, Nat.le_trans hb1.size hbs.size, fun k hk hne => ?_⟩
      · exact hbs.os.trans hb1.os
      · exact hbs.tape.trans hb1.tape
      · exact hbs.output.trans hb1.output
      · rw [heap_cellsQ (fun h => hne (by rw [h]))]
        exact hb1.block k hk
  · obtain ⟨A, c, rfl⟩ := own_slice own
    obtain ⟨g', cap', hv, hg', hlt⟩ := own.form (by omega)
    injection hv with hv1 _ hv2
    subst hv1
    subst hv2
    rw [← hen, ← List.flatMap_append] at own
    have hqn := QuB.of_own own
    refine h g' 0 c w' ⟨hqn.len, hqn.le, hqn.mx, ?_, hqn.lt, hqn.sp, hqn.cs⟩ ?_ ?_
    · exact Nat.le_trans (Nat.le_trans hq.bs (Nat.le_of_lt hq.lt)) (Nat.le_trans hb1.size hg')
    · exact (hb1.grown hg hb1.size (by simp)).mono (Nat.le_trans hq.bs (Nat.le_of_lt hq.lt))
    · exact ⟨hg.os.trans hb1.os, hg.tape.trans hb1.tape, hg.output.trans hb1.output, Nat.le_trans hb1.size hg.size, fun k hk _ => (hg.block k (Nat.lt_of_lt_of_le hk hb1.size) (by simp)).trans (hb1.block k hk)⟩
end Go.Proofs.Ytgkgklgeobbmlaa
